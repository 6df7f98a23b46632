/- A part of the proof. -/
import GoSem.Core.Code
import GoSem.Core.Machine
import Derived.Calls
import Derived.Laws.Sem
import Derived.Laws.World
import Derived.Laws.IdiomCopy
import Derived.Laws.AppendOwn
set_option linter.all false
section
namespace Go
abbrev au:=@Option.some.injEq
abbrev aM:=@decide_eq_true
abbrev cd:=@List.getElem?_eq_some_iff
abbrev bm:=@decide_eq_false
abbrev bQ:=@List.getElem?_map
abbrev bU:=@List.getElem_mem
abbrev cI:=@Bool.and_eq_true
abbrev fw:=@Option.bind_eq_some_iff
abbrev cX:=@List.length_map
abbrev dk:=@List.mem_append
abbrev ff:=@List.mem_of_getElem?
abbrev cQ:=@Nat.zero_add
abbrev fH:=@List.length_append
abbrev cp:=@Nat.le_refl
abbrev eF:=@List.map_append
abbrev jW:=@Array.getD_eq_getD_getElem?
abbrev fI:=@List.append_assoc
abbrev aI:=@if_neg
abbrev ku:=@List.drop_eq_getElem_cons
abbrev fJ:=@Option.map_some
abbrev kI:=@List.getElem?_eq_getElem
abbrev aP:=@if_pos
abbrev lH:=@Array.getElem?_eq_some_iff
abbrev gX:=@decide_eq_true_eq
abbrev e9:=@List.map_cons
abbrev jC:=@List.mem_cons_of_mem
abbrev gY:=@List.all_eq_true
abbrev jD:=@List.mem_cons_self
abbrev nY:=@List.getD_eq_getElem?_getD
abbrev nZ:=@List.getElem?_append_left
abbrev jl:=@List.length_cons
abbrev oZ:=@Array.getElem?_eq_getElem
abbrev lI:=@beq_eq_false_iff_ne
abbrev nC:=@List.drop_eq_nil_of_le
abbrev lj:=@of_decide_eq_false
abbrev ik:=@List.mem_cons
abbrev iB:=@Prod.mk.injEq
abbrev qP:=@List.getElem?_append_right
abbrev p6:=@Nat.exists_eq_add_of_le'
abbrev p7:=@List.length_eq_zero_iff
abbrev iD:=@Nat.le_trans
abbrev dj:=@if_true
abbrev qQ:=@List.getElem?_cons_zero
abbrev p8:=@Nat.mul_le_mul_right
abbrev eX:=@if_false
abbrev pd:=@List.mem_singleton
abbrev mL:=@List.length_nil
abbrev qR:=@List.getElem?_set_ne
abbrev sk:=@Nat.eq_of_beq_eq_true
abbrev kJ:=@List.mem_map
abbrev mM:=@List.mapM_cons
abbrev fW:=@congrArg
abbrev oa:=@List.append_nil
abbrev zj:=@Array.getElem?_setIfInBounds
abbrev vp:=@List.getElem?_set_self
abbrev By:=@Array.getElem?_setIfInBounds_ne
abbrev sn:=@of_decide_eq_true
abbrev kv:=@beq_iff_eq
abbrev sq:=@List.take_add_one
abbrev mN:=@Nat.add_zero
abbrev vq:=@List.getElem?_of_mem
abbrev lJ:=@Nat.add_mul
abbrev zk:=@Option.isSome_iff_exists
abbrev zm:=@List.getElem?_take_of_lt
abbrev sr:=@List.cons_append
abbrev Bz:=@Array.getElem?_append_left
abbrev vr:=@List.getElem?_drop
abbrev zn:=@List.take_of_length_le
abbrev p9:=@Nat.add_assoc
abbrev uc:=@List.not_mem_nil
abbrev ud:=@List.length_take
abbrev zo:=@List.getElem?_eq_none
abbrev su:=@List.drop_zero
abbrev ue:=@Option.some.inj
abbrev BA:=@List.getElem?_cons_succ
abbrev xn:=@Bool.false_eq_true
abbrev vt:=@Nat.le_antisymm
abbrev BD:=@Array.getElem?_modify
abbrev vu:=@List.mem_range
abbrev zp:=@Bool.not_eq_true'
abbrev zq:=@List.length_drop
abbrev vw:=@List.all_cons
abbrev IK:=@List.mem_or_eq_of_mem_set
abbrev EN:=@List.mem_of_mem_take
abbrev EO:=@List.mem_append_left
abbrev zr:=@List.nil_append
abbrev vx:=@List.map_set
abbrev vy:=@List.map_nil
abbrev nD:=@true_and
abbrev EP:=@List.length_pos_iff
abbrev ER:=@List.getElem_of_mem
abbrev xo:=@Bool.false_or
abbrev BE:=@beq_self_eq_true
abbrev xp:=@Nat.sub_zero
abbrev zt:=@List.sum_cons
abbrev zu:=@Bool.true_and
abbrev Oo:=@Int.tdiv_eq_ediv_of_nonneg
abbrev IL:=@List.count_le_length
abbrev ES:=@List.take_length
abbrev IN:=@Nat.mul_le_mul_left
abbrev zh:=@Nat.lt_or_ge
abbrev ua:=@cond_true
abbrev IC:=@Nat.lt_of_lt_of_le
abbrev EJ:=@List.length_set
abbrev IE:=@Array.getElem?_map
abbrev N4:=@List.length_eq_one_iff
abbrev N5:=@Array.getElem?_eq_none
abbrev IF:=@Nat.mod_eq_of_lt
abbrev N6:=@List.pairwise_append
abbrev N7:=@List.mem_of_mem_drop
abbrev ub:=@or_false
abbrev zi:=@Array.ext'
abbrev N8:=@List.map_congr_left
abbrev IG:=@Bool.or_eq_true
abbrev VC:=@Array.getElem?_append_right
abbrev VD:=@Int.tmod_eq_emod_of_nonneg
abbrev N9:=@Option.toList_some
abbrev N':=@Nat.pos_of_ne_zero
abbrev Oa:=@Nat.eq_zero_or_pos
abbrev Ob:=@List.getElem?_take
abbrev Oc:=@List.count_eq_zero
abbrev Od:=@List.contains_cons
abbrev IH:=@List.take_zero
abbrev VE:=@Classical.byContradiction
abbrev Oe:=@not_false_eq_true
abbrev Og:=@List.nodup_append
abbrev Oh:=@List.flatMap_cons
abbrev EK:=@Nat.zero_le
abbrev EL:=@Nat.mul_one
abbrev VF:=@List.getElem?_replicate
abbrev Oi:=@List.mem_flatMap
abbrev VG:=@List.append_eq_nil_iff
abbrev VH:=@Array.getElem?_extract
abbrev II:=@Nat.mul_comm
abbrev VI:=@Nat.le_of_ble_eq_true
abbrev VJ:=@List.take_append_drop
abbrev Oj:=@List.range_succ
abbrev Ok:=@List.nodup_cons
abbrev IJ:=@List.map_map
abbrev Ol:=@List.cons.injEq
abbrev EM:=@Nat.mod_lt
abbrev VL:=@List.getLast?_append
abbrev VM:=@Bool.or_eq_false_iff
abbrev VN:=@bne_eq_false_iff_eq
abbrev VO:=@List.getElem?_range
abbrev VP:=@Array.length_toList
abbrev VQ:=@Array.getElem?_push
abbrev VR:=@Nat.lt_of_le_of_lt
abbrev VT:=@List.pairwise_cons
abbrev VU:=@Array.foldl_toList
abbrev VW:=@Array.all_eq_true'
abbrev VX:=@List.getElem?_set
abbrev VY:=@List.ext_getElem?
abbrev VZ:=@List.count_append
abbrev V0:=@Int.toNat_natCast
abbrev Om:=@List.all_nil
abbrev V2:=@decide_eq_decide
abbrev V4:=@List.foldl_cons
abbrev V5:=@List.count_cons
abbrev afU:=@Option.isNone_iff_eq_none
abbrev V6:=@Nat.mul_le_mul
abbrev afV:=@List.getElem?_zip_eq_some
abbrev afW:=@List.getElem?_eq_none_iff
abbrev V7:=@List.drop_drop
abbrev afX:=@Array.mapM_eq_mapM_toList
abbrev On:=@bne_iff_ne
abbrev afY:=@List.eq_of_mem_replicate
abbrev afZ:=@Array.getElem?_replicate
abbrev V8:=@Nat.lt_irrefl
abbrev V9:=@List.map_drop
abbrev Wa:=@List.any_cons
abbrev Wb:=@Bool.not_true
abbrev af0:=@List.range_succ_eq_map
abbrev af1:=@List.pairwise_lt_range
abbrev Wc:=@Nat.sub_self
abbrev Wd:=@Nat.pow_succ
abbrev Wg:=@List.sum_nil
abbrev Wh:=@List.set_set
abbrev af2:=@List.set_getElem_self
abbrev af3:=@List.mem_append_right
abbrev af4:=@Array.getElem?_toList
end Go
namespace Go.ax
inductive Tag where | im (nil:Bool) | own
 deriving DecidableEq
inductive D where
 | int (k:IntKind) (n:Int)
 | bool (b:Bool)
 | str (s:List UInt8)
 | sl (t:Tag) (sz:Nat) (rows:List (List D))
 | dead
 deriving Inhabited
def yv:D->Bool
 | .int .u8 _=>true
 | _=>false
def tV:List D->Bool
 | [d]=>yv d
 | _=>false
def ni (rows:List (List D)):Bool:=rows.isEmpty||rows.any λr=>!tV r
def fS (bytes:Nat) (src:List (List D)) (em:Bool):Bool:=ni src||bytes==1
def Bq (z dJ:D):Bool:=!yv z||yv dJ
def Im:List D->List D->Bool
 | z::zs,o::os=>Bq z o&&Im zs os
 | _,_=>true
inductive aJ where | e (i:Nat) | l (i:Nat) | g (i:Nat)
 deriving DecidableEq,Inhabited
def aJ.iT:aJ->Bool
 | .g _=>true
 | _=>false
inductive Key where | s (i:Nat) | b (r:aJ) (c:Nat) | r (r:aJ) | h (i:Nat) | a (k:Key)
 deriving DecidableEq,Inhabited
structure Place where
 k:Key
 j:Nat
 p:List (Nat×Nat)
 deriving DecidableEq,Inhabited
def Place.sub (pl:Place) (i c:Nat):Place:={ pl with p:=pl.p++[(i,c)] }
inductive C where
 | d (x:D)
 | ptr (r:aJ) (g c:Nat)
 | eB (pl:Place) (g sz i c:Nat)
 | pp (cells:List D)
 | view (pl:Place) (g sz off len:Nat)
 | cY (pl:Place) (g a sz:Nat) (rows:List (List D))
 | fn (f:Nat) (first cap:List C)
 | c7 | eY | fQ
 | fk
 | bz (t:Nat)
 | mp (x:D)
 | gq (i g:Nat)
 | dead
 deriving Inhabited
inductive V where
 | one (c:C)
 | agg (cs:List C)
 | ao (vs:List V)
 deriving Inhabited
abbrev kN:Nat:=1000000000000
def AG (n:Nat):Bool:=Nat.ble n 999999999999
def Kz {n:Nat} (h:AG n=true):n < kN:=Nat.lt_succ_of_le (VI h)
def V.dead:V:=.one .dead
def cr:V->Nat
 | .one (.d (.int _ n))=>n.toNat
 | _=>0
def fR (n:Nat):V:=.one (.d (.int .i64 n))
structure mO where
 v:V
 g:Nat
 deriving Inhabited
abbrev St:=List (Key×mO)
def St.get (S:St) (k:Key):mO:=
 match S with
 | []=>⟨.one .dead,0⟩
 | (k',e)::t=>if k'=k then e else St.get t k
def St.put (S:St) (k:Key) (e:mO):St:=
 match S with
 | []=>[(k,e)]
 | (k',e')::t=>if k'=k then(k,e)::t else(k',e')::St.put t k e
structure Wr where
 k:Key
 v:V
 keep:Bool:=false
 deriving Inhabited
def St.wr (S:St) (x:Wr):St:=S.put x.k ⟨x.v,if x.keep then(S.get x.k).g else(S.get x.k).g+1⟩
def St.ai (S:St):List Wr->St
 | []=>S
 | x::t=>(S.ai t).wr x
def aqB {R:Type} (b:Bool) (k:Unit->Option R):Option R:=bif b then k () else none
def HN {R:Type} (b:Bool) (k:Bool->Option R):Option R:=bif b then k true else k false
def ga {R:Type} (d:D) (k:Nat->List (List D)->Option R):Option R:=match d with | .sl .own sz rows=>k sz rows | _=>none
def ay {β R:Type} (o:Option β) (k:β->Option R):Option R:=match o with | some b=>k b | none=>none
inductive Q (α:Type):Type 1 where
 | ret (a:α)
 | get (k:Key) (f:mO->Q α)
 | oh {β:Type} (h:(R:Type)->(β->Option R)->Option R) (nat:∀(R:Type) (k:β->Option R),h R k=(h β some).bind k) (f:β->Q α)
 | no
namespace Q
def bind {α β:Type}:Q α->(α->Q β)->Q β
 | .ret a,f=>f a
 | .get k g,f=>.get k λe=>(g e).bind f
 | .oh h nat g,f=>.oh h nat λb=>(g b).bind f
 | .no,_=>.no
instance:Monad Q where
 pure:=Q.ret
 bind:=Q.bind
def at_ (k:Key):Q mO:=.get k .ret
def run {α:Type} (S:St):Q α->Option α
 | .ret a=>some a
 | .get k f=>(f (S.get k)).run S
 | .oh h _ f=>h α λb=>(f b).run S
 | .no=>none
def reads {α:Type} (S:St):Q α->List Key
 | .ret _=>[]
 | .get k f=>k::(f (S.get k)).reads S
 | .oh h _ f=>(h (List Key) λb=>some ((f b).reads S)).getD []
 | .no=>[]
def guard (b:Bool):Q Unit:=.oh (λ_ k=>aqB b λ_=>k ()) (by intro R k;cases b<;>rfl) .ret
def du {α:Type} (o:Option α):Q α:=.oh (λ_ k=>ay o k) (by intro R k;cases o<;>rfl) .ret
def ask (b:Bool):Q Bool:=.oh (λ_ k=>HN b k) (by intro R k;cases b<;>rfl) .ret
def OO (d:D):Q D:=.oh (λ_ k=>ga d λsz rows=>k (.sl .own sz rows)) (by intro R k;unfold ga;split<;>rfl) .ret
end Q
section
variable {α β:Type} (S:St)
@[simp] def Q.at7 (a:α):(Q.ret a).run S=some a:=rfl
@[simp] def Q.run_pure (a:α):(pure a:Q α).run S=some a:=rfl
@[simp] def Q.at6:(Q.no:Q α).run S=none:=rfl
@[simp] def Q.run_get (k:Key) (f:mO->Q α):(Q.get k f).run S=(f (S.get k)).run S:=rfl
@[simp] def Q.w9 (k:Key):(Q.at_ k).run S=some (S.get k):=rfl
def Q.run_bind' (x:Q α) (f:α->Q β):(x.bind f).run S=(x.run S).bind λa=>(f a).run S:=by
 induction x with
 | ret a=>rfl
 | get k g ih=>simp only[Q.bind,Q.run];exact ih _
 | oh h nat g ih=>
  simp only[Q.bind,Q.run];rw[nat,nat α];cases hh:h _ some with
  | none=>rfl
  | some b=>simp only[Option.bind];exact ih b
 | no=>rfl
@[simp] def Q.run_bind (x:Q α) (f:α->Q β):(x >>= f).run S=(x.run S).bind λa=>(f a).run S:=Q.run_bind' S x f
@[simp] def Q.pW (b:Bool):(Q.guard b).run S=if b then some () else none:=by cases b<;>rfl
@[simp] def Q.Eo (x:Option α):(Q.du x).run S=x:=by cases x<;>rfl
@[simp] def Q.Ut (b:Bool):(Q.ask b).run S=some b:=by cases b<;>rfl
def Q.ark {d y:D} (h:(Q.OO d).run S=some y):y=d:=by
 have h':(ga d λsz rows=>some (D.sl .own sz rows))=some y:=h;unfold ga at h';split at h'
 ·simpa using h'.symm
 ·cases h'
@[simp] def Q.run_ite (c:Prop) [Decidable c] (x y:Q α):(if c then x else y).run S=if c then x.run S else y.run S:=by split<;>rfl
def Q.Uu {S S':St} (x:Q α) (h:∀k∈x.reads S,S'.get k=S.get k):x.run S'=x.run S/\x.reads S'=x.reads S:=by
 induction x with
 | ret a=>exact⟨rfl,rfl⟩
 | get k f ih=>
  have hk:=h k (by simp[Q.reads]);have:=ih (S.get k) (λk' iH=>h k' (by simp[Q.reads,iH]));simp only[Q.run,Q.reads,hk];exact⟨this.1,by rw[this.2]⟩
 | oh c nat f ih=>
  simp only[Q.run,Q.reads] at h ⊢;rw[nat,nat _ (λb=>(f b).run S),nat (List Key) (λb=>some ((f b).reads S')),nat (List Key) (λb=>some ((f b).reads S))];rw[nat (List Key)] at h;cases hc:c _ some with
  | none=>exact⟨rfl,rfl⟩
  | some b=>
   rw[hc] at h;have:=ih b h;simp only[Option.bind,Option.getD];exact this
 | no=>exact⟨rfl,rfl⟩
end
def St.akD (S:St) (k k':Key) (e:mO):(S.put k e).get k'=if k=k' then e else S.get k':=by
 induction S with
 | nil=>simp only[St.put,St.get]
 | cons x t ih=>
  obtain⟨k0,e0⟩:=x;simp only[St.put];by_cases h0:k0=k
  ·subst h0;simp only[dj,St.get];by_cases h:k0=k'<;>simp[h]
  ·simp only[h0,eX,St.get,ih];by_cases h1:k0=k'
   ·subst h1;simp[Ne.symm h0]
   ·simp[h1]
end Go.ax
end
namespace Go.ax
section
inductive X where | s (i:Nat) | t (i:Nat) | c (v:V) | f (n:Nat)
 deriving Inhabited
inductive Cv where | int (k:IntKind) | I8 | UX | same
 deriving DecidableEq
inductive Fl where | int | bool | str
 deriving DecidableEq,Inhabited
inductive TC where | other | bool | struct (fs:List Fl) | ptr | slice | func | iface
 deriving Inhabited
inductive oc where
 | Mu (x:X)
 | Ti (x:X)
 | pick (c a b:X)
 | alloc (zero:List C)
 | OH (t:Nat) (zero:List C)
 | box (n:Nat) (x:X)
 | OZ (t n:Nat) (x:X)
 | build (zero:List C) (parts:List (Nat×Nat×X))
 | Qt (parts:List X)
 | O4 (mv:Bool) (sz:Nat) (rows:List (List D)) (parts:List (Nat×X))
 | load (n:Nat) (agg:Bool) (x:X)
 | store (mv:Bool) (n:Nat) (x v:X)
 | bin (tc:TC) (op:BinOp) (x y:X)
 | un (op:UnOp) (x:X)
 | conv (c:Cv) (x:X)
 | S6 (f:Nat) (first cap:List X)
 | S9 (sz bytes:Nat) (zero:List D) (l c:X)
 | UF (x:X) (lo hi:Option X)
 | slice (sz:Nat) (x:X) (lo hi mx:Option X)
 | Qn (off:Nat) (x:X)
 | field (off n:Nat) (agg:Bool) (x:X)
 | Sg (sz:Nat) (x i:X)
 | Sh (n sz:Nat) (x i:X)
 | index (x i:X)
 | extract (j:Nat) (x:X)
 | len (str:Bool) (x:X)
 | app (sz bytes:Nat) (x y:X)
 | BP (sz bytes:Nat) (x y:X)
 | BN (x y:X)
 | min (x y:X)
 | max (x y:X)
 | call (f:X) (args:List (Bool×X))
 | S7 (x:X)
 | Ux (x:X)
 | U' (x n:X)
 | S8
 | S5 (m k:X)
 | Ta (m k v:X)
 | bad
 deriving Inhabited
def Cu (tag:Nat):C->Option (List C)
 | .fn t [] l=>match Nat.beq t tag with | true=>some l | false=>none
 | _=>none
def Qq {tag:Nat} {c:C} {l:List C} (h:Cu tag c=some l):c = .fn tag [] l:=by
 unfold Cu at h;split at h
 ·split at h
  ·rename_i t l' hb;cases h;rw[sk hb]
  ·cases h
 ·cases h
def C.isF:C->Bool
 | .fn n _ _=>AG n
 | _=>false
def C.own:C->Bool
 | .d (.sl .own _ _)=>true
 | .cY .. => true
 | .bz _=>true
 | .mp _=>true
 | _=>false
def V.cells:V->List C
 | .one c=>[c]
 | .agg cs=>cs
 | .ao _=>[]
def V.own (v:V):Bool:=v.cells.any C.own
mutual
def lW:D->D
 | .int k n=>.int k n
 | .bool b=>.bool b
 | .str s=>.str s
 | .sl .own sz rows=>.sl (.im false) sz (aK rows)
 | .sl (.im b) sz rows=>.sl (.im b) sz rows
 | .dead=>.dead
def HL:List D->List D
 | []=>[]
 | d::t=>lW d::HL t
def aK:List (List D)->List (List D)
 | []=>[]
 | r::t=>HL r::aK t
end
def C.plain:C->C
 | .d x=>.d (lW x)
 | .mp _=>.dead
 | c=>c
def V.plain:V->V
 | .one c=>.one c.plain
 | .agg cs=>.agg (cs.map C.plain)
 | .ao vs=>.ao vs
def C.look (k:Key) (g j:Nat):C->C
 | .d (.sl .own sz rows)=>.view ⟨k,j,[]⟩ g sz 0 rows.length
 | .cY .. => .dead
 | .bz _=>.dead
 | .mp _=>.dead
 | c=>c
def uV (k:Key) (g:Nat):Nat->List C->List C
 | _,[]=>[]
 | j,c::cs=>c.look k g j::uV k g (j+1) cs
def V.look (k:Key) (g:Nat):V->V
 | .one c=>.one (c.look k g 0)
 | .agg cs=>.agg (uV k g 0 cs)
 | .ao vs=>.ao vs
def ek:D->List (Nat×Nat)->Option D
 | d,[]=>some d
 | .sl .own _ rows,(i,c)::p=>((rows[i]?).bind (·[c]?)).bind (ek · p)
 | _,_::_=>none
def eo (x:D) (p:List (Nat×Nat)) (y:D):D:=
 match p with
 | []=>y
 | (i,c)::p=>
  match x with
  | .sl .own sz rows=>.sl .own sz (rows.set i ((rows.getD i []).set c (eo (((rows.getD i [])).getD c (.bool false)) p y)))
  | x=>x
def V.setCell (v:V) (j:Nat) (c:C):V:=
 match v with
 | .one c0=>if j=0 then .one c else .one c0
 | .agg cs=>.agg (cs.set j c)
 | .ao vs=>.ao vs
def D.flat:D->Bool
 | .sl .. => false
 | .dead=>false
 | _=>true
def C.flat:C->Bool
 | .d x=>x.flat
 | _=>false
def V.flat:V->Bool
 | .one c=>c.flat
 | .agg cs=>cs.all C.flat
 | .ao vs=>go vs
where go:List V->Bool
 | []=>true
 | v::t=>v.flat&&go t
def rd:X->Q V
 | .s i=>do let e <-Q.at_ (.s i);pure (e.v.look (.s i) e.g)
 | .t i=>do let e <-Q.at_ (.s i);pure (e.v.look (.s i) e.g)
 | .c v=>pure v
 | .f n=>pure (.one (.fn n [] []))
def nS (ws:List Wr) (k:Key) (v:V):List Wr:={ k,v } :: ws
def qj:List Wr->Key->Option V
 | [],_=>none
 | x::t,k=>if x.k=k then some x.v else qj t k
def sF (ws:List Wr) (k:Key):Q mO:=do
 let e <-Q.at_ k
 match qj ws k with
 | some v=>pure ⟨v,e.g⟩
 | none=>pure e
def fresh (ws:List Wr) (k:Key):Bool:=(qj ws k).isNone&&(qj ws (.a k)).isNone
def tk (ws:List Wr):X->Q (V×List Wr)
 | .t i=>do
  let e <-Q.at_ (.s i)
  Q.guard (qj ws (.s i)).isNone
  if e.v.own then pure (e.v,nS ws (.s i) V.dead) else pure (e.v,ws)
 | x=>do let v <-rd x;pure (v,ws)
def yG:D->List (Nat×Nat)->Q D
 | d,[]=>pure d
 | .sl .own _ rows,(i,c)::p=>do
  let row <-Q.du rows[i]?
  let y <-Q.du row[c]?
  let y <-Q.OO y
  yG y p
 | _,_::_=>Q.no
def jO (ws:List Wr) (pl:Place) (g sz:Nat):Q (mO×D×List (List D)):=do
 let e <-sF ws pl.k
 Q.guard (e.g==g)
 match e.v.cells[pl.j]? with
 | some (.d x)=>do
  let y <-yG x pl.p
  match y with
  | .sl .own da rows=>do Q.guard (da==sz);pure (e,x,rows)
  | _=>Q.no
 | _=>Q.no
def st (ws:List Wr):C->Q (C×List Wr)
 | .view pl g sz off len=>do
  let (e,x,rows) <-jO ws pl g sz
  Q.guard (decide (off+len<=rows.length))
  pure (.d (.sl (.im false) sz (aK ((rows.drop off).take len))),nS ws pl.k (e.v.setCell pl.j (.d (eo x pl.p (.sl (.im false) sz (aK rows))))))
 | .cY pl g a sz rows=>do
  let (e,x,dJ) <-jO ws pl g sz
  let ea <-Q.at_ (.a pl.k)
  Q.guard (ea.g==a&&fresh ws pl.k)
  pure (.d (.sl (.im false) sz (aK rows)),nS ws pl.k (e.v.setCell pl.j (.d (eo x pl.p (.sl (.im false) sz (aK dJ))))))
 | .eB .. => Q.no
 | .bz _=>Q.no
 | .mp _=>Q.no
 | .gq .. => Q.no
 | .dead=>Q.no
 | c=>pure (c,ws)
def l7 (ws:List Wr):List C->Q (List C×List Wr)
 | []=>pure ([],ws)
 | c::cs=>do
  let (c',ws) <-st ws c
  let (dQ,ws) <-l7 ws cs
  pure (c'::dQ,ws)
def wE (v:V) (pl:Place) (x:D):V:=v.setCell pl.j (.d (eo x pl.p .dead))
def settle (ws:List Wr) (pl:Place) (g a sz:Nat) (rows:List (List D)):Q (C×List Wr):=do
 let (e,x,_) <-jO ws pl g sz
 let ea <-Q.at_ (.a pl.k)
 Q.guard (ea.g==a&&fresh ws pl.k)
 pure (.d (.sl .own sz rows),nS ws pl.k (wE e.v pl x))
def oV (ws:List Wr) (P:Place):C->Q (C×List Wr)
 | .cY pl g a sz rows=>if pl=P then settle ws pl g a sz rows else st ws (.cY pl g a sz rows)
 | c=>st ws c
def Key.Mt:Key->Bool
 | .b (.e _) _=>false
 | _=>true
def oW (ws:List Wr) (P:Place):C->Q (C×List Wr)
 | .view pl g sz off len=>do
  let (e,x,rows) <-jO ws pl g sz
  let t <-Q.ask (!(pl.k==P.k)&&pl.k.Mt&&(off==0&&len==rows.length && !rows.isEmpty))
  if t then
   pure (.d (.sl .own sz rows),nS ws pl.k (wE e.v pl x))
  else st ws (.view pl g sz off len)
 | .cY pl g a sz rows=>
  if !(pl.k==P.k)&&pl.k.Mt then settle ws pl g a sz rows
  else oV ws P (.cY pl g a sz rows)
 | c=>st ws c
def tO (ws:List Wr):List C->Q (List C×List Wr)
 | []=>pure ([],ws)
 | c::cs=>do
  let (c',ws) <-oW ws ⟨.h 0,0,[]⟩ c
  let (dQ,ws) <-tO ws cs
  pure (c'::dQ,ws)
def Ea (mv:Bool) (ws:List Wr) (cs:List C):Q (List C×List Wr):=if mv=true then tO ws cs else l7 ws cs
def lU (agg:Bool) (cs:List C):Q V:=
 if agg then pure (.agg cs) else match cs with
  | [c]=>pure (.one c)
  | _=>Q.no
def wX (r:aJ):Nat->Nat->Q (List C)
 | _,0=>pure []
 | c,n+1=>do
  let e <-Q.at_ (.b r c)
  match e.v with
  | .one x=>do let t <-wX r (c+1) n;pure (x.look (.b r c) e.g 0::t)
  | _=>Q.no
def SV (pl:Place) (g:Nat):D->C
 | .sl .own sz rows=>.view pl g sz 0 rows.length
 | y=>.d y
def rE (pl:Place) (g i:Nat):Nat->List D->List C
 | _,[]=>[]
 | c,x::t=>SV (pl.sub i c) g x::rE pl g i (c+1) t
def gC (r:aJ):Nat->List C->List Wr->List Wr
 | _,[],ws=>ws
 | c,x::t,ws=>gC r (c+1) t ({ k:=.b r c,v:=.one x } :: ws)
def boxed (dst:Nat) (cs:List C) (ws:List Wr):Q (V×List Wr):=do
 let e <-sF ws (.r (.l dst))
 Q.guard (cr e.v==0||cr e.v==cs.length)
 pure (.one (.ptr (.l dst) (e.g+1) 0),gC (.l dst) 0 cs ({ k:=.r (.l dst),v:=fR cs.length } :: ws))
def Es {α:Type} (l:List α) (off:Nat) (cs:List α):List α:=l.take off++cs++l.drop (off+cs.length)
def Fs (ws:List Wr):List C->List (Nat×Nat×X)->Q (List C×List Wr)
 | cells,[]=>pure (cells,ws)
 | cells,(off,n,x)::rest=>do
  let (v,ws) <-tk ws x
  let (cs,ws) <-l7 ws v.cells
  Q.guard (cs.length==n&&decide (off+n<=cells.length))
  Fs ws (Es cells off cs) rest
def mT:List C->Option (List D)
 | []=>some []
 | .d x::t=>(mT t).map (x :: ·)
 | _::_=>none
def JC (mv:Bool) (sz:Nat) (ws:List Wr):List (List D)->List (Nat×X)->Q (List (List D)×List Wr)
 | rows,[]=>pure (rows,ws)
 | rows,(i,x)::rest=>do
  let (v,ws) <-tk ws x
  let (cs,ws) <-Ea mv ws v.cells
  let row <-Q.du (mT cs)
  Q.guard (row.length==sz&&decide (i < rows.length))
  JC mv sz ws (rows.set i row) rest
def D.c8:List UInt8->List (List D):=λs=>s.map λb=>[.int .u8 b.toNat]
def kG:List (List D)->Option (List UInt8)
 | []=>some []
 | [.int .u8 n]::t=>(kG t).map (UInt8.ofNat n.toNat :: ·)
 | _::_=>none
def qz:List (List D)->List UInt8->Bool
 | [.str k,.bool b]::t,s=>bif s==k then b else qz t s
 | _,_=>false
def qA:List (List D)->List UInt8->Bool->List (List D)
 | [.str k,.bool b]::t,s,v=>bif s==k then[.str s,.bool v]::t else[.str k,.bool b]::qA t s v
 | _,s,v=>[[.str s,.bool v]]
def bytesLess:List UInt8->List UInt8->Bool
 | _,[]=>false
 | [],_::_=>true
 | a::x,b::y=>a < b||(a==b&&bytesLess x y)
def Ii (op:BinOp) (x y:List UInt8):Option D:=
 match op with
 | .add=>if x.length+y.length<=9223372036854775807 then some (.str (x++y)) else none
 | .eql=>some (.bool (x==y))
 | .neq=>some (.bool (!(x==y)))
 | .lss=>some (.bool (bytesLess x y))
 | .leq=>some (.bool (bytesLess x y||x==y))
 | .gtr=>some (.bool (!(bytesLess x y||x==y)))
 | .geq=>some (.bool (!bytesLess x y))
 | _=>none
def Dg (op:BinOp) (k:IntKind) (x y:Int):Option D:=
 match op with
 | .add=>some (.int k (k.wrap (x+y)))
 | .sub=>some (.int k (k.wrap (x - y)))
 | .mul=>some (.int k (k.wrap (x * y)))
 | .quo=>if y=0 then none else some (.int k (k.wrap (x.tdiv y)))
 | .rem=>if y=0 then none else some (.int k (x.tmod y))
 | .and=>some (.int k (k.wrap (BitVec.ofInt k.bits x &&& BitVec.ofInt k.bits y).toNat))
 | .or=>some (.int k (k.wrap (BitVec.ofInt k.bits x ||| BitVec.ofInt k.bits y).toNat))
 | .xor=>some (.int k (k.wrap (BitVec.ofInt k.bits x ^^^ BitVec.ofInt k.bits y).toNat))
 | .andNot=>some (.int k (k.wrap (BitVec.ofInt k.bits x &&& ~~~(BitVec.ofInt k.bits y)).toNat))
 | .eql=>some (.bool (x==y))
 | .neq=>some (.bool (x != y))
 | .lss=>some (.bool (decide (x < y)))
 | .leq=>some (.bool (decide (x<=y)))
 | .gtr=>some (.bool (decide (x > y)))
 | .geq=>some (.bool (decide (x>=y)))
 | _=>none
def Er (op:BinOp) (k:IntKind) (x y:Int):Option D:=
 if y < 0 then none else
 match op with
 | .shl=>some (.int k (k.wrap (x * 2 ^ (Min.min y.toNat k.bits))))
 | .shr=>some (.int k (x.fdiv (2 ^ (Min.min y.toNat k.bits))))
 | _=>none
def dC:List Fl->List C->List C->Option Bool
 | [],[],[]=>some true
 | .int::r,.d (.int k x)::s,.d (.int k' y)::t=>if k=k' then(dC r s t).map (x==y && ·) else none
 | .bool::r,.d (.bool x)::s,.d (.bool y)::t=>(dC r s t).map (x==y && ·)
 | .str::r,.d (.str x)::s,.d (.str y)::t=>(dC r s t).map (x==y && ·)
 | _,_,_=>none
def jL:TC->C->Option Bool
 | .ptr,.c7=>some true
 | .ptr,.ptr .. => some false
 | .func,.eY=>some true
 | .func,.fn n _ _=>match AG n with | true=>some false | false=>none
 | .iface,.fQ=>some true
 | .iface,.fk=>some false
 | .slice,.d (.sl (.im b) _ _)=>some b
 | .slice,.view .. => some false
 | _,_=>none
def sG (tc:TC) (op:BinOp) (x y:V):Option D:=
 match x,y with
 | .one (.d (.int k a)),.one (.d (.int k' b))=>
  match op with
  | .shl=>Er .shl k a b
  | .shr=>Er .shr k a b
  | _=>if k=k' then Dg op k a b else none
 | .one (.d (.str a)),.one (.d (.str b))=>Ii op a b
 | .one (.d (.bool a)),.one (.d (.bool b))=>
  match tc,op with
  | .bool,.eql=>some (.bool (a==b))
  | .bool,.neq=>some (.bool (!(a==b)))
  | _,_=>none
 | .agg a,.agg b=>
  match tc,op with
  | .struct fs,.eql=>(dC fs a b).map .bool
  | .struct fs,.neq=>(dC fs a b).map λr=>.bool (!r)
  | _,_=>none
 | .one a,.one b=>
  if jL tc b=some true then
   match op with
   | .eql=>(jL tc a).map .bool
   | .neq=>(jL tc a).map λr=>.bool (!r)
   | _=>none
  else none
 | _,_=>none
def unV (op:UnOp) (x:V):Option D:=
 match op,x with
 | .not,.one (.d (.bool b))=>some (.bool (!b))
 | .neg,.one (.d (.int k n))=>some (.int k (k.wrap (0 - n)))
 | .xor,.one (.d (.int k n))=>some (.int k (k.wrap (BitVec.ofInt k.bits (if k.signed then -1 else k.max) ^^^ BitVec.ofInt k.bits n).toNat))
 | _,_=>none
def asNat:V->Option Nat
 | .one (.d (.int _ n))=>if 0<=n then some n.toNat else none
 | _=>none
def rJ (x:Option X) (d:Nat):Q Nat:=
 match x with
 | none=>pure d
 | some x=>do let v <-rd x;Q.du (asNat v)
def shown:V->Q (List (List D))
 | .one (.d (.sl .own _ _))=>Q.no
 | .one (.d (.sl _ _ rows))=>pure rows
 | .one (.view pl g sz off len)=>do
  let (_,_,rows) <-jO [] pl g sz
  Q.guard (decide (off+len<=rows.length))
  pure (aK ((rows.drop off).take len))
 | _=>Q.no
def aeo:X->Q (List (List D))
 | .s i=>do
  let e <-Q.at_ (.s i)
  match e.v with
  | .one (.cY pl g a _ rows)=>do
   let ep <-Q.at_ pl.k
   let ea <-Q.at_ (.a pl.k)
   Q.guard (ep.g==g&&ea.g==a)
   pure rows
  | _=>Q.no
 | _=>Q.no
def rowsOf (sz:Nat) (ws:List Wr) (v:V):Q (List (List D)×List Wr):=
 match v with
 | .one c=>do
  let (c',ws) <-st ws c
  match c' with
  | .d (.sl _ da rows)=>do Q.guard (da==sz||rows.isEmpty);pure (rows,ws)
  | _=>Q.no
 | _=>Q.no
def xv (sz bytes:Nat) (v:V) (ws:List Wr) (src:List (List D)):Q (V×List Wr):=
 match v with
 | .one (.d (.sl .own da rows))=>do
  Q.guard (fS bytes src rows.isEmpty&&(da==sz&&decide ((rows.length+src.length) * bytes<=140737488355328)))
  pure (.one (.d (.sl .own sz (rows++src))),ws)
 | .one (.d (.sl (.im b) da _))=>do
  Q.guard (fS bytes src false&&(b&&da==sz&&decide (src.length * bytes<=140737488355328)))
  pure (.one (.d (.sl (if src.isEmpty then .im true else .own) sz src)),ws)
 | .one (.view pl g da off len)=>do
  let (_,_,rows) <-jO ws pl g sz
  Q.guard (fS bytes src rows.isEmpty&&da==sz&&off==0&&len==rows.length&&fresh ws pl.k&&decide ((rows.length+src.length) * bytes<=140737488355328))
  let ea <-Q.at_ (.a pl.k)
  pure (.one (.cY pl g (ea.g+1) sz (rows++src)),{ k:=.a pl.k,v:=V.dead } :: ws)
 | .one (.cY pl g a da rows)=>do
  let (_,_,dJ) <-jO ws pl g sz
  let ea <-Q.at_ (.a pl.k)
  Q.guard (fS bytes src rows.isEmpty&&da==sz&&decide (dJ.length<=rows.length)&&ea.g==a&&fresh ws pl.k&&decide ((rows.length+src.length) * bytes<=140737488355328))
  pure (.one (.cY pl g (ea.g+1) sz (rows++src)),{ k:=.a pl.k,v:=V.dead } :: ws)
 | _=>Q.no
def abU (dst:Nat) (v:V) (ws:List Wr):Q (V×List Wr):=
 match v with
 | .one (.cY pl g a sz rows)=>do
  let (c,ws) <-settle ws pl g a sz rows
  pure (.one c,ws)
 | .one (.view pl g sz off len)=>
  if pl.k = .s dst then do
   let (c,ws) <-st ws (.view pl g sz off len)
   pure (.one c,ws)
  else pure (v,ws)
 | _=>pure (v,ws)
def sN (rows:List (List D)):Bool:=rows.all λr=>r.all D.flat
def ajs (sz bytes:Nat) (x y:X):Q (V×List Wr):=do
 let (a,ws) <-tk [] y
 let (src,ws) <-rowsOf sz ws a
 let (v,ws) <-tk ws x
 xv sz bytes v ws src
def Fy (P:Place) (i:Nat) (ws:List Wr):Nat->List C->Q (List D×List Wr)
 | _,[]=>pure ([],ws)
 | c,y::t=>do
  let (y',ws) <-oV ws (P.sub i c) y
  match y' with
  | .d z=>do
   let (zs,ws) <-Fy P i ws (c+1) t
   pure (z::zs,ws)
  | _=>Q.no
def xL (v:V) (pl:Place) (i:Nat):Nat->List D->D->List Wr->Option (List Wr)
 | _,[],_,ws=>some ws
 | c,z::t,x,ws=>
  match ek x (pl.p++[(i,c)]) with
  | none=>none
  | some dJ=>
   if Bq z dJ=true then
   xL (v.setCell pl.j (.d (eo x (pl.p++[(i,c)]) z))) pl i (c+1) t (eo x (pl.p++[(i,c)]) z)
    ({ k:=pl.k,v:=v.setCell pl.j (.d (eo x (pl.p++[(i,c)]) z)),keep:=dJ.flat&&z.flat } :: { k:=.a pl.k,v:=V.dead } :: ws)
   else none
def M0 (mv:Bool) (ws:List Wr) (P:Place) (y:C):Q (C×List Wr):=if mv then oW ws P y else oV ws P y
def putCells (mv:Bool) (r:aJ) (ws:List Wr):Nat->List C->Q (List C×List Wr)
 | _,[]=>pure ([],ws)
 | c,y::t=>do
  let (y',ws) <-M0 mv ws ⟨.b r c,0,[]⟩ y
  let (ys,ws) <-putCells mv r ws (c+1) t
  pure (y'::ys,ws)
end
section
abbrev bX:=Nat->List V->List (List C)->Option (V×List (List C))
mutual
def C.u6:C->List (aJ×Nat)
 | .ptr r g _=>[(r,g)]
 | .fn _ a b=>kg a++kg b
 | _=>[]
def kg:List C->List (aJ×Nat)
 | []=>[]
 | c::t=>c.u6++kg t
end
def sA:List aJ->List (aJ×Nat)->List aJ
 | rs,[]=>rs
 | rs,(r,_)::t=>if rs.contains r then sA rs t else sA (rs++[r]) t
def AS (ws:List Wr):List (aJ×Nat)->Q Unit
 | []=>pure ()
 | (r,g)::t=>do
  let e <-Q.at_ (.r r)
  Q.guard (e.g==g&&(qj ws (.r r)).isNone && !r.iT)
  AS ws t
def A7 (ws:List Wr) (r:aJ):Nat->Nat->Q (List C)
 | _,0=>pure []
 | c,n+1=>do
  let e <-sF ws (.b r c)
  match e.v with
  | .one x=>do
   let t <-A7 ws r (c+1) n
   pure (x::t)
  | _=>Q.no
def z6 (ws:List Wr):Nat->List aJ->Nat->Q (List aJ×List (List C))
 | 0,rs,i=>if rs.length<=i then pure (rs,[]) else Q.no
 | f+1,rs,i=>
  match rs[i]? with
  | none=>pure (rs,[])
  | some r=>do
   let er <-Q.at_ (.r r)
   let cs <-A7 ws r 0 (cr er.v)
   AS ws (kg cs)
   let (Ul,bs) <-z6 ws f (sA rs (kg cs)) (i+1)
   pure (Ul,cs::bs)
def jh (rs:List aJ) (r:aJ) (i:Nat):Option Nat:=
 match rs with
 | []=>none
 | x::t=>if x=r then some i else jh t r (i+1)
mutual
def C.dX (rs:List aJ):C->Option C
 | .d x=>some (.d x)
 | .ptr r _ c=>(jh rs r 0).map λi=>.ptr (.e i) 0 c
 | .pp cells=>some (.pp cells)
 | .fn f a b=>(nc rs a).bind λa'=>(nc rs b).map λb'=>.fn f a' b'
 | .c7=>some .c7
 | .eY=>some .eY
 | .fQ=>some .fQ
 | .fk=>some .fk
 | .bz t=>some (.bz t)
 | .dead=>some .dead
 | _=>none
def nc (rs:List aJ):List C->Option (List C)
 | []=>some []
 | c::t=>(c.dX rs).bind λc'=>(nc rs t).map (c' :: ·)
end
def V.uO (rs:List aJ):V->Option V
 | .one c=>(c.dX rs).map .one
 | .agg cs=>(nc rs cs).map .agg
 | .ao _=>none
def uP (rs:List aJ):List V->Option (List V)
 | []=>some []
 | v::t=>(v.uO rs).bind λv'=>(uP rs t).map (v' :: ·)
def pL (rs:List aJ):List (List C)->Option (List (List C))
 | []=>some []
 | v::t=>(nc rs v).bind λv'=>(pL rs t).map (v' :: ·)
mutual
def C.dR (rs:List (aJ×Nat)):C->Option C
 | .d x=>some (.d x)
 | .ptr (.e i) _ c=>(rs[i]?).map λx=>.ptr x.1 x.2 c
 | .ptr _ _ _=>none
 | .pp cells=>some (.pp cells)
 | .fn f a b=>(nn rs a).bind λa'=>(nn rs b).map λb'=>.fn f a' b'
 | .c7=>some .c7
 | .eY=>some .eY
 | .fQ=>some .fQ
 | .fk=>some .fk
 | .bz t=>some (.bz t)
 | .dead=>some .dead
 | _=>none
def nn (rs:List (aJ×Nat)):List C->Option (List C)
 | []=>some []
 | c::t=>(c.dR rs).bind λc'=>(nn rs t).map (c' :: ·)
end
mutual
def V.pQ (rs:List (aJ×Nat)):V->Option V
 | .one c=>(c.dR rs).map .one
 | .agg cs=>(nn rs cs).map .agg
 | .ao vs=>(tC rs vs).map .ao
def tC (rs:List (aJ×Nat)):List V->Option (List V)
 | []=>some []
 | v::t=>(v.pQ rs).bind λv'=>(tC rs t).map (v' :: ·)
end
def rK (rs:List (aJ×Nat)):List (List C)->Option (List (List C))
 | []=>some []
 | v::t=>(nn rs v).bind λv'=>(rK rs t).map (v' :: ·)
def Cz:List aJ->Q (List (aJ×Nat))
 | []=>pure []
 | x::t=>do
  let e <-Q.at_ (.r x)
  let l <-Cz t
  pure ((x,e.g)::l)
def C.same:C->C->Bool
 | .ptr r g c,.ptr r' g' c'=>decide (r=r')&&g==g'&&c==c'
 | _,_=>false
def mB (r:aJ):Nat->List C->List C->List Wr->List Wr
 | c,x::t,y::u,ws=>mB r (c+1) t u (if y.same x then ws else { k:=.b r c,v:=.one x } :: ws)
 | _,_,_,ws=>ws
def jF:List aJ->List (List C)->List (List C)->List Wr->List Wr
 | x::rs,cs::bs,ol::os,ws=>jF rs bs os (mB x 0 cs ol ws)
 | _,_,_,ws=>ws
def tj:List (List C)->List (List C)->Bool
 | [],[]=>true
 | x::t,y::u=>x.length==y.length&&tj t u
 | _,_=>false
def yS (i:Nat) (ws:List Wr):List (Bool×X)->Q (List V×List Wr)
 | []=>pure ([],ws)
 | (b,x)::t=>do
  let (v,ws) <-tk ws x
  match v with
  | .one c=>
   if(b&&t.isEmpty)=true then do
    let (c',ws) <-oW ws ⟨.h 0,0,[]⟩ c
    pure ([.one c'],ws)
   else do
    let (c',ws) <-st ws c
    let (vs,ws) <-yS (i+1) ws t
    pure (.one c'.plain::vs,ws)
  | .agg cs=>
   if(b&&t.isEmpty)=true then do
    let (dQ,ws) <-tO ws cs
    pure ([.agg dQ],ws)
   else do
    let (dQ,ws) <-l7 ws cs
    let (vs,ws) <-yS (i+1) ws t
    pure (.agg (dQ.map C.plain)::vs,ws)
  | .ao _=>Q.no
def tX:List V->List (aJ×Nat)
 | []=>[]
 | v::t=>kg v.cells++tX t
def B7 (Cl:bX) (dst:Nat) (f:Nat) (vs:List V) (ws:List Wr) (mv:Bool):Q (V×List Wr):=do
 AS ws (tX vs)
 let (rs,bs) <-z6 ws 40 (sA [] (tX vs)) 0
 let eR <-Q.du (uP rs vs)
 let dL <-Q.du (pL rs bs)
 let (r,out) <-Q.du (Cl f eR dL)
 if !mv&&(rs.isEmpty&&r.flat&&out.isEmpty) then pure (r,[])
 else do
  let gs <-Cz rs
  if out.length=rs.length then do
   let r' <-Q.du (r.pQ gs)
   let cy <-Q.du (rK gs out)
   Q.guard (tj cy bs)
   pure (r',jF rs cy bs ws)
  else do
   let e <-sF ws (.r (.l dst))
   let FD:=gs++[(.l dst,e.g+1)]
   let r' <-Q.du (r.pQ FD)
   let cy <-Q.du (rK FD out)
   let nb:=cy.getD rs.length []
   Q.guard (out.length==rs.length+1&&tj (cy.take rs.length) bs&&(cr e.v==0||cr e.v==nb.length) && !rs.contains (.l dst))
   pure (r',gC (.l dst) 0 nb ({ k:=.r (.l dst),v:=fR nb.length } :: jF rs cy bs ws))
def FC (ws:List Wr):List X->Q (List C×List Wr)
 | []=>pure ([],ws)
 | x::t=>do
  let v <-rd x
  match v with
  | .one c=>do
   let (c',ws) <-st ws c
   let (r,ws) <-FC ws t
   pure (c'::r,ws)
  | _=>Q.no
def Tag.YD:Tag->Tag
 | .im b=>bif b then .im true else .own
 | .own=>.own
def ch (Cl:bX) (dst:Nat):oc->Q (V×List Wr)
 | .Mu x=>do let (v,ws) <-tk [] x;abU dst v ws
 | .Ti x=>do
  let v <-rd x
  match v with
  | .one (.ptr ..)=>pure (v,[])
  | .one (.eB ..)=>pure (v,[])
  | .one (.pp _)=>pure (v,[])
  | .one (.fn n _ _)=>do
   Q.guard (AG n)
   pure (v,[])
  | _=>Q.no
 | .pick c a b=>do
  let v <-rd c
  match v with
  | .one (.d (.bool true))=>do let r <-rd a;pure (r,[])
  | .one (.d (.bool false))=>do let r <-rd b;pure (r,[])
  | _=>Q.no
 | .alloc zero=>boxed dst zero []
 | .OH t zero=>do
  let (v,ws) <-boxed dst zero []
  pure (v,{ k:=.b (.l dst) 0,v:=.one (.bz t) } :: ws)
 | .box n x=>do
  let (v,ws) <-tk [] x
  let (cs,ws) <-l7 ws v.cells
  Q.guard (cs.length==n)
  boxed dst cs ws
 | .OZ t n x=>do
  let (v,ws) <-tk [] x
  let (cs,ws) <-l7 ws v.cells
  Q.guard (cs.length==n)
  match cs with
  | [.c7,z]=>do
   let (r,ws) <-boxed dst [.c7,z] ws
   pure (r,{ k:=.b (.l dst) 0,v:=.one (.bz t) } :: ws)
  | _=>Q.no
 | .build zero parts=>do let (cs,ws) <-Fs [] zero parts;pure (.agg cs,ws)
 | .Qt parts=>do
  let (cs,ws) <-FC [] parts
  Q.guard (cs.all C.isF)
  pure (.one (.fn kN [] cs),ws)
 | .O4 mv sz rows parts=>do
  let (rs,ws) <-JC mv sz [] rows parts
  Q.guard ((ni rs || !(ni rows))&&(!rs.isEmpty||parts.isEmpty))
  pure (.one (.d (.sl .own sz rs)),ws)
 | .load n agg x=>do
  let v <-rd x
  match v with
  | .one (.ptr r g c)=>do
   let e <-Q.at_ (.r r)
   Q.guard (!r.iT&&e.g==g&&decide (c+n<=cr e.v))
   let cs <-wX r c n
   let r' <-lU agg cs
   pure (r',[])
  | .one (.pp cells)=>do
   Q.guard (decide (n<=cells.length))
   let r' <-lU agg ((cells.take n).map .d)
   pure (r',[])
  | .one (.eB pl g sz i c)=>do
   let (_,_,rows) <-jO [] pl g sz
   let row <-Q.du rows[i]?
   Q.guard (decide (c+n<=row.length))
   let r' <-lU agg (rE pl g i c ((row.drop c).take n))
   pure (r',[])
  | .one (.fn t f l)=>do
   let l <-Q.du (Cu (kN+1) (.fn t f l))
   Q.guard (l.length==n)
   let r' <-lU agg l
   pure (r',[])
  | _=>Q.no
 | .store mv n x v=>do
  let p <-rd x
  let (vv,ws) <-tk [] v
  Q.guard (vv.cells.length==n)
  match p with
  | .one (.ptr r g c)=>do
   let (cs,ws) <-putCells mv r ws c vv.cells
   let e <-sF ws (.r r)
   Q.guard (!r.iT&&e.g==g&&decide (c+n<=cr e.v))
   pure (.ao [],gC r c cs ws)
  | .one (.eB pl g sz i c)=>do
   let (zs,ws) <-Fy pl i ws c vv.cells
   let (e,x0,rows) <-jO ws pl g sz
   let row <-Q.du rows[i]?
   Q.guard (decide (c+n<=row.length))
   let ws <-Q.du (xL e.v pl i c zs x0 ws)
   pure (.ao [],ws)
  | _=>Q.no
 | .bin tc op x y=>do
  let a <-rd x
  let b <-rd y
  let r <-Q.du (sG tc op a b)
  pure (.one (.d r),[])
 | .un op x=>do
  let a <-rd x
  let r <-Q.du (unV op a)
  pure (.one (.d r),[])
 | .conv c x=>do
  let a <-rd x
  match c,a with
  | .int k,.one (.d (.int _ n))=>pure (.one (.d (.int k (k.wrap n))),[])
  | .same,.one (.d (.str s))=>pure (.one (.d (.str s)),[])
  | .UX,.one (.d (.str s))=>do
   Q.guard (decide (s.length<=140737488355328))
   pure (.one (.d (.sl .own 1 (D.c8 s))),[])
  | .I8,.one .dead=>do
   let rows <-aeo x
   let s <-Q.du (kG rows)
   pure (.one (.d (.str s)),[])
  | .I8,a=>do
   let rows <-shown a
   let s <-Q.du (kG rows)
   pure (.one (.d (.str s)),[])
  | _,_=>Q.no
 | .S6 f first cap=>do
  let (a,ws) <-FC [] first
  let (b,ws) <-FC ws cap
  pure (.one (.fn f a b),ws)
 | .S9 sz bytes zero l c=>do
  let n <-rd l
  let m <-rd c
  let n <-Q.du (asNat n)
  let m <-Q.du (asNat m)
  Q.guard (decide (n<=m)&&decide (m * bytes<=140737488355328)&&decide (m<=9223372036854775807)&&zero.length==sz&&(bytes==1||(!(tV zero)&&(!(n==0)||m==0))))
  pure (.one (.d (.sl .own sz (List.replicate n zero))),[])
 | .UF x lo hi=>do
  let v <-rd x
  match v with
  | .one (.d (.str s))=>do
   let l <-rJ lo 0
   let h <-rJ hi s.length
   Q.guard (decide (l<=h)&&decide (h<=s.length))
   pure (.one (.d (.str ((s.drop l).take (h - l)))),[])
  | _=>Q.no
 | .slice pX x lo hi mx=>do
  let v <-rd x
  match v with
  | .one (.d (.sl .own _ _))=>Q.no
  | .one (.d (.sl t sz rows))=>do
   let l <-rJ lo 0
   let h <-rJ hi rows.length
   Q.guard ((sz==pX||rows.isEmpty)&&decide (l<=h)&&decide (h<=rows.length))
   match mx with
   | none=>pure (.one (.d (.sl t sz ((rows.drop l).take (h - l)))),[])
   | some x=>do
    let vm <-rd x
    let m <-Q.du (asNat vm)
    Q.guard (m==0&&l==0&&h==0)
    pure (.one (.d (.sl t.YD sz [])),[])
  | .one (.view pl g sz off len)=>do
   let l <-rJ lo 0
   let h <-rJ hi len
   Q.guard (sz==pX&&decide (l<=h)&&decide (h<=len)&&mx.isNone&&(decide (0 < h)||len==0))
   pure (.one (.view pl g sz (off+l) (h - l)),[])
  | _=>Q.no
 | .Qn off x=>do
  let v <-rd x
  match v with
  | .one (.ptr r g c)=>pure (.one (.ptr r g (c+off)),[])
  | .one (.pp cells)=>pure (.one (.pp (cells.drop off)),[])
  | .one (.eB pl g sz i c)=>pure (.one (.eB pl g sz i (c+off)),[])
  | _=>Q.no
 | .field off n agg x=>do
  let v <-rd x
  match v with
  | .agg cs=>do
   Q.guard (decide (off+n<=cs.length))
   let r <-lU agg ((cs.drop off).take n)
   pure (r,[])
  | _=>Q.no
 | .Sg sz x i=>do
  let v <-rd x
  let vi <-rd i
  let i <-Q.du (asNat vi)
  match v with
  | .one (.d (.sl .own _ _))=>Q.no
  | .one (.d (.sl _ da rows))=>do
   Q.guard (da==sz)
   let row <-Q.du rows[i]?
   pure (.one (.pp row),[])
  | .one (.view pl g da off len)=>do
   Q.guard (da==sz&&decide (i < len))
   pure (.one (.eB pl g sz (off+i) 0),[])
  | .one (.fn t f l)=>do
   let l <-Q.du (Cu kN (.fn t f l))
   Q.guard (sz==1)
   let c <-Q.du l[i]?
   pure (.one (.fn (kN+1) [] [c]),[])
  | _=>Q.no
 | .Sh n sz x i=>do
  let v <-rd x
  let vi <-rd i
  let i <-Q.du (asNat vi)
  Q.guard (decide (i < n))
  match v with
  | .one (.ptr r g c)=>pure (.one (.ptr r g (c+i * sz)),[])
  | _=>Q.no
 | .index x i=>do
  let v <-rd x
  let vi <-rd i
  let i <-Q.du (asNat vi)
  match v with
  | .one (.d (.str s))=>do
   let b <-Q.du s[i]?
   pure (.one (.d (.int .u8 b.toNat)),[])
  | _=>Q.no
 | .extract j x=>do
  let v <-rd x
  match v with
  | .ao vs=>do let r <-Q.du vs[j]?;pure (r,[])
  | _=>Q.no
 | .len true x=>do
  let v <-rd x
  match v with
  | .one (.d (.str s))=>pure (.one (.d (.int .i64 s.length)),[])
  | _=>Q.no
 | .len false x=>do
  let v <-rd x
  match v with
  | .one (.d (.sl _ _ rows))=>pure (.one (.d (.int .i64 rows.length)),[])
  | .one (.view _ _ _ _ len)=>pure (.one (.d (.int .i64 len)),[])
  | .one (.fn t f l)=>do
   let l <-Q.du (Cu kN (.fn t f l))
   pure (.one (.d (.int .i64 l.length)),[])
  | _=>Q.no
 | .app sz bytes x y=>do
  let (a,ws) <-tk [] y
  let (src,ws) <-rowsOf sz ws a
  let (v,ws) <-tk ws x
  xv sz bytes v ws src
 | .BP sz bytes x y=>do
  let a <-rd y
  match a with
  | .one (.view pl g da off len)=>do
   let (_,_,rows) <-jO [] pl g da
   Q.guard (da==sz&&decide (off+len<=rows.length)&&sN ((rows.drop off).take len))
   let (v,ws) <-tk [] x
   xv sz bytes v ws ((rows.drop off).take len)
  | _=>ajs sz bytes x y
 | .BN x y=>do
  let a <-rd y
  match a with
  | .one (.d (.str s))=>do
   let (v,ws) <-tk [] x
   xv 1 1 v ws (D.c8 s)
  | _=>Q.no
 | .min x y=>do
  let a <-rd x
  let b <-rd y
  match a,b with
  | .one (.d (.int k m)),.one (.d (.int _ n))=>pure (.one (.d (.int k (if n < m then n else m))),[])
  | _,_=>Q.no
 | .max x y=>do
  let a <-rd x
  let b <-rd y
  match a,b with
  | .one (.d (.int k m)),.one (.d (.int _ n))=>pure (.one (.d (.int k (if n > m then n else m))),[])
  | _,_=>Q.no
 | .call f args=>do
  let vf <-rd f
  match vf with
  | .one (.fn n first cap)=>do
   Q.guard (AG n)
   let (vs,ws) <-yS first.length [] args
   B7 Cl dst n (first.map .one++vs++cap.map .one) ws (args.any (·.1))
  | _=>Q.no
 | .S7 _=>pure (.one .fk,[])
 | .Ux x=>do
  let v <-rd x
  match v with
  | .one (.view pl g sz off len)=>do
   Q.guard (!(len==0)&&off==0)
   pure (.one (.eB pl g sz 0 0),[])
  | _=>Q.no
 | .U' x n=>do
  let v <-rd x
  let vn <-rd n
  let n <-Q.du (asNat vn)
  match v with
  | .one (.eB pl g sz i c)=>do
   let (e,x0,rows) <-jO [] pl g sz
   Q.guard (sz==1&&i==0&&c==0&&n==rows.length && !(n==0)&&decide (n<=140737488355328))
   let s <-Q.du (kG rows)
   pure (.one (.d (.str s)),nS [] pl.k (wE e.v pl x0))
  | _=>Q.no
 | .S8=>do
  let e <-Q.at_ (.b (.g dst) 0)
  let n <-Q.at_ (.r (.g dst))
  Q.guard (decide (cr n.v<=1))
  pure (.one (.gq dst (e.g+1)),[{ k:=.b (.g dst) 0,v:=.one (.mp (.sl (.im false) 2 [])) },{ k:=.r (.g dst),v:=fR 1 }])
 | .S5 m k=>do
  let v <-rd m
  let s <-rd k
  match v,s with
  | .one (.gq i g),.one (.d (.str s))=>do
   let e <-Q.at_ (.b (.g i) 0)
   match e.v with
   | .one (.mp (.sl _ _ rows))=>do
    Q.guard (e.g==g)
    pure (.one (.d (.bool (qz rows s))),[])
   | _=>Q.no
  | _,_=>Q.no
 | .Ta m k x=>do
  let v <-rd m
  let s <-rd k
  let b <-rd x
  match v,s,b with
  | .one (.gq i g),.one (.d (.str s)),.one (.d (.bool b))=>do
   let e <-Q.at_ (.b (.g i) 0)
   match e.v with
   | .one (.mp (.sl _ _ rows))=>do
    Q.guard (e.g==g)
    pure (.ao [],[{ k:=.b (.g i) 0,v:=.one (.mp (.sl (.im false) 2 (qA rows s b))),keep:=true },{ k:=.a (.b (.g i) 0),v:=V.dead }])
   | _=>Q.no
  | _,_,_=>Q.no
 | .bad=>Q.no
end
section
structure gA where
 dst:Option Nat
 op:oc
 guard:Option (Nat×Bool)
 deriving Inhabited
inductive ma where
 | skip
 | iY (keep:Option (List Nat)) (gc:Bool) (ops:List gA) (draw:Option (List (Nat×Nat)))
 | seq (a b:ma)
 | cond (c:X) (a b:ma)
 | block (id:Nat) (body:ma)
 | loop (body:ma)
 | exit (id:Nat)
 | ret
 deriving Inhabited
inductive RV where
 | slot (t:Nat)
 | cell (t n:Nat) (agg:Bool)
 deriving Inhabited
structure lk where
 DU:Nat
 results:List RV
 body:ma
 forget:Bool
 deriving Inhabited
inductive uh where | norm | exit (id:Nat) | ret
 deriving DecidableEq,Inhabited
def CG:Option (Nat×Bool)->Q Bool
 | none=>pure true
 | some (t,b)=>do
  let e <-Q.at_ (.s t)
  match e.v with
  | .one (.d (.bool x))=>pure (x==b)
  | .ao []=>pure false
  | _=>Q.no
def gF (Cl:bX) (o:gA):Q (List Wr):=do
 let want <-CG o.guard
 if want then do
  let (v,ws) <-ch Cl (o.dst.getD 0) o.op
  match o.dst with
  | some d=>pure ({ k:=.s d,v } :: ws)
  | none=>pure ws
 else
  match o.dst with
  | some d=>pure [{ k:=.s d,v:=.ao [] }]
  | none=>pure []
def oj (Cl:bX):List gA->St->Option St
 | [],S=>some S
 | o::t,S=>((gF Cl o).run S).bind λws=>oj Cl t (S.ai ws)
structure l9 where
 r:List Key
 w:List Key
def jd (Cl:bX):List gA->St->Option (St×List l9)
 | [],S=>some (S,[])
 | o::t,S=>((gF Cl o).run S).bind λws=>
  (jd Cl t (S.ai ws)).map λx=>(x.1,⟨(gF Cl o).reads S,ws.map (·.k)⟩::x.2)
def l9.apart (x y:l9):Bool:=
 x.w.all (λk=>!y.r.contains k && !y.w.contains k)&&y.w.all (λk=>!x.r.contains k)
def TO (fs:List l9) (ps:List (Nat×Nat)):Bool:=
 ps.all λ(i,j)=>match fs[i]?,fs[j]? with
  | some x,some y=>x.apart y
  | _,_=>false
mutual
def C.refs:C->List Key
 | .view pl .. => [pl.k]
 | .eB pl .. => [pl.k]
 | .cY pl .. => [pl.k,.a pl.k]
 | .gq i _=>[.b (.g i) 0]
 | .fn _ a b=>Ef a++Ef b
 | _=>[]
def Ef:List C->List Key
 | []=>[]
 | c::t=>c.refs++Ef t
end
mutual
def V.refs:V->List Key
 | .one c=>c.refs
 | .agg cs=>Ef cs
 | .ao vs=>Nf vs
def Nf:List V->List Key
 | []=>[]
 | v::t=>v.refs++Nf t
end
def kept (keep:List Nat):Key->Bool
 | .s i=>keep.contains i
 | .h _=>false
 | _=>true
def allRefs:St->List Key
 | []=>[]
 | (_,e)::t=>e.v.refs++allRefs t
def Ni (refs:List Key) (k:Key) (g:Nat):Nat:=if refs.contains k then g else match k with | .r _=>g | _=>0
def reset (refs:List Key):St->St
 | []=>[]
 | (k,e)::t=>(k,{ e with g:=Ni refs k e.g })::reset refs t
def aay:mO->Bool
 | ⟨.one .dead,g⟩=>Nat.beq g 0
 | _=>false
def PV (S:St):Key->Bool
 | .a k=>aay (S.get (.a k))
 | _=>false
def Fm (S:St):St:=S.filter λx=>!PV S x.1
def St.Tj (keep:List Nat) (S:St):Option St:=
 let S':=S.filter λx=>kept keep x.1
 if(allRefs S').all (kept keep) then some (Fm (reset (allRefs S') S')) else none
def UH:List Key->List Nat
 | []=>[]
 | .s i::t=>i::UH t
 | _::t=>UH t
def St.looked (keep:List Nat) (S:St):List Nat:=keep++UH (allRefs (S.filter λx=>kept keep x.1))
def St.norm (keep:List Nat) (S:St):Option St:=S.Tj (S.looked (S.looked keep))
def Key.u9 : Key->Option aJ
 | .b x _=>some x
 | .r x=>some x
 | _=>none
mutual
def C.w7:C->List aJ
 | .ptr r .. => [r]
 | .eB pl .. => pl.k.u9.toList
 | .view pl .. => pl.k.u9.toList
 | .cY pl .. => pl.k.u9.toList
 | .gq i _=>[.g i]
 | .fn _ a b=>Ej a++Ej b
 | _=>[]
def Ej:List C->List aJ
 | []=>[]
 | c::t=>c.w7++Ej t
end
mutual
def V.roots:V->List aJ
 | .one c=>c.w7
 | .agg cs=>Ej cs
 | .ao vs=>Nn vs
def Nn:List V->List aJ
 | []=>[]
 | v::t=>v.roots++Nn t
end
def Key.alO:Key->Bool
 | .s _=>true
 | _=>false
def UG:St->List aJ
 | []=>[]
 | (k,e)::t=>(if k.alO then e.v.roots else[])++UG t
def Xe (live:List aJ):St->List aJ
 | []=>[]
 | (k,e)::t=>(match k with | .b r _=>if live.contains r then e.v.roots else[] | _=>[])++Xe live t
def Qz (S:St):Nat->List aJ->List aJ
 | 0,l=>l
 | n+1,l=>Qz S n (l++(Xe l S).filter λr=>!l.contains r)
def aJ.ext:aJ->Bool
 | .l _=>false
 | _=>true
def C.pO (c:C):C:=c
def V.pO:V->V
 | .one c=>.one c.pO
 | v=>v
def DP:St->St
 | []=>[]
 | (k,e)::t=>(k,{ e with v:=e.v.pO })::DP t
def sP (live:List aJ) (k:Key):Bool:=match k.u9 with | some r=>r.ext||live.contains r | none=>true
def St.gc (S:St):Option St:=
 let live:=Qz S 3 (UG S)
 let S':=S.filter λx=>sP live x.1
 if S'.all λx=>x.2.v.roots.all λr=>r.ext||live.contains r then some (DP S') else none
def qi (Cl:bX) (keep:Option (List Nat)) (gc:Bool) (ops:List gA) (draw:Option (List (Nat×Nat))) (S:St):Option St:=
 (match keep with | some l=>S.norm l | none=>some S).bind λS1=>
 (if gc then S1.gc else some S1).bind λS2=>
 match draw with
 | none=>oj Cl ops S2
 | some []=>oj Cl ops S2
 | some ps=>(jd Cl ops S2).bind λx=>if TO x.2 ps then some x.1 else none
def iter (f:St->Option (uh×St)):Nat->St->Option (uh×St)
 | 0,_=>none
 | n+1,S=>(f S).bind λx=>match x.1 with
  | .norm=>iter f n x.2
  | e=>some (e,x.2)
def zK (S:St) (c:X):Option Bool:=
 ((rd c).run S).bind fun
  | .one (.d (.bool b))=>some b
  | _=>none
def dq (Cl:bX) (n:Nat):ma->St->Option (uh×St)
 | .skip,S=>some (.norm,S)
 | .iY keep gc ops draw,S=>(qi Cl keep gc ops draw S).map λS'=>(.norm,S')
 | .seq a b,S=>(dq Cl n a S).bind λx=>match x.1 with
  | .norm=>dq Cl n b x.2
  | e=>some (e,x.2)
 | .cond c a b,S=>(zK S c).bind λt=>if t then dq Cl n a S else dq Cl n b S
 | .block id b,S=>(dq Cl n b S).map λx=>(match x.1 with | .exit i=>if i=id then .norm else .exit i | e=>e,x.2)
 | .loop b,S=>iter (dq Cl n b) n S
 | .exit id,S=>some (.exit id,S)
 | .ret,S=>some (.ret,S)
def gk:Nat->List V->St
 | _,[]=>[]
 | i,v::t=>(.s i,⟨v,0⟩)::gk (i+1) t
def BT (r:aJ):Nat->List C->St
 | _,[]=>[]
 | c,x::t=>(.b r c,⟨.one x,0⟩)::BT r (c+1) t
def dm:Nat->List (List C)->St
 | _,[]=>[]
 | i,b::t=>(.r (.e i),⟨fR b.length,0⟩)::(BT (.e i) 0 b++dm (i+1) t)
def Ud (ws:List Wr):RV->Q (V×List Wr)
 | .slot t=>tk ws (.t t)
 | .cell t n agg=>do
  let v <-rd (.s t)
  match v with
  | .one (.ptr r g c)=>do
   let e <-Q.at_ (.r r)
   Q.guard (!r.iT&&e.g==g&&decide (c+n<=cr e.v))
   let cs <-wX r c n
   let r' <-lU agg cs
   pure (r',ws)
  | _=>Q.no
def adx (r:RV):Q (V×List Wr):=do
 let (v,ws) <-Ud [] r
 match v with
 | .one c=>do let (c',ws) <-oW ws ⟨.h 0,0,[]⟩ c;pure (.one c',ws)
 | .agg cs=>do let (dQ,ws) <-tO ws cs;pure (.agg dQ,ws)
 | .ao _=>Q.no
def A' (ws:List Wr):List RV->Q (List V×List Wr)
 | []=>pure ([],ws)
 | r::t=>do
  let (v,ws) <-Ud ws r
  match v with
  | .one c=>do
   let (c',ws) <-st ws c
   let (vs,ws) <-A' ws t
   pure (.one c'.plain::vs,ws)
  | .agg cs=>do
   let (dQ,ws) <-l7 ws cs
   let (vs,ws) <-A' ws t
   pure (.agg (dQ.map C.plain)::vs,ws)
  | .ao _=>Q.no
def Uh (forget:Bool):List RV->Q (V×List Wr)
 | [r]=>if forget then do
   let (vs,ws) <-A' [] [r]
   match vs with
   | [v]=>pure (v,ws)
   | _=>Q.no
  else adx r
 | rs=>do let (vs,ws) <-A' [] rs;pure (.ao vs,ws)
def tq:List (aJ×Nat)->Option aJ
 | []=>none
 | (.l i,_)::_=>some (.l i)
 | _::t=>tq t
def TG (ws:List Wr):Nat->List (List C)->Q (List (List C))
 | _,[]=>pure []
 | i,b::t=>do
  let e <-sF ws (.r (.e i))
  Q.guard (cr e.v==b.length)
  let cs <-A7 ws (.e i) 0 b.length
  let r <-TG ws (i+1) t
  pure (cs::r)
def om:Nat->Nat->List aJ
 | _,0=>[]
 | i,n+1=>.e i::om (i+1) n
mutual
def V.leave (rs:List aJ):V->Option V
 | .one c=>(c.dX rs).map .one
 | .agg cs=>(nc rs cs).map .agg
 | .ao vs=>(wH rs vs).map .ao
def wH (rs:List aJ):List V->Option (List V)
 | []=>some []
 | v::t=>(v.leave rs).bind λv'=>(wH rs t).map (v' :: ·)
end
def A5:List (List C)->List (aJ×Nat)
 | []=>[]
 | b::t=>kg b++A5 t
mutual
def V.A6:V->List (aJ×Nat)
 | .one c=>c.u6
 | .agg cs=>kg cs
 | .ao vs=>HM vs
def HM:List V->List (aJ×Nat)
 | []=>[]
 | v::t=>v.A6++HM t
end
def xP (fn:lk) (bx:List (List C)):Q (V×List (List C)):=do
 let (v,ws) <-Uh fn.forget fn.results
 let out <-TG ws 0 bx
 match tq v.A6 with
 | none=>do
  AS ws (v.A6++A5 out)
  let v' <-Q.du (v.leave (om 0 bx.length))
  let D6 <-Q.du (pL (om 0 bx.length) out)
  pure (v',D6)
 | some r=>do
  let e <-sF ws (.r r)
  let cs <-A7 ws r 0 (cr e.v)
  AS ws (v.A6++A5 (out++[cs]))
  let v' <-Q.du (v.leave (om 0 bx.length++[r]))
  let D6 <-Q.du (pL (om 0 bx.length++[r]) (out++[cs]))
  pure (v',D6)
def vQ (Cl:bX) (n:Nat) (fn:lk) (args:List V) (bx:List (List C)):Option (V×List (List C)):=
 if args.length<=fn.DU then
  (dq Cl n fn.body (gk 0 args++dm 0 bx)).bind λx=>
   match x.1 with
   | .exit _=>none
   | _=>(xP fn bx).run x.2
 else none
def nG (T:Nat->Option lk) (pS:bX):Nat->bX
 | 0=>λ_ _ _=>none
 | n+1=>λf args bx=>match T f with
  | some fn=>vQ (nG T pS n) n fn args bx
  | none=>pS f args bx
end
section
inductive DS where
 | int (k:IntKind)
 | bool
 | str
 | im (sz:Nat)
 | own (sz:Nat)
 | sl (sz:Nat)
 | tg (sz:Nat)
 | bz (t:Nat)
 | lr (f:Nat) (l:List (Nat×Nat))
 | ptr (i c:Nat)
 | c7
 | eY
 | dead
 | any
 deriving DecidableEq,Inhabited
abbrev DS.T:DS->Type
 | .int _=>Int
 | .bool=>Bool
 | .str=>List UInt8
 | .im _=>Bool×List (List D)
 | .own _=>List (List D)
 | .sl _=>Tag×List (List D)
 | .tg _=>Tag×List (List D)
 | .bz _=>Unit
 | .lr _ _=>Unit
 | .ptr _ _=>Unit
 | .c7=>Unit
 | .eY=>Unit
 | .dead=>Unit
 | .any=>D
abbrev aq:List DS->Type
 | []=>Unit
 | s::t=>s.T×aq t
def mU:(s:DS)->D->Option s.T
 | .any,x=>some x
 | .int k,.int k' n=>if k=k' then some n else none
 | .bool,.bool b=>some b
 | .str,.str s=>some s
 | .im sz,.sl (.im b) da rows=>if sz=da then some (b,rows) else none
 | .own sz,.sl .own da rows=>if sz=da then some rows else none
 | .sl sz,.sl t da rows=>if sz=da then some (t,rows) else none
 | .tg sz,.sl t da rows=>if sz=da then some (t,rows) else none
 | .dead,.dead=>some ()
 | _,_=>none
def dI:(ds:List DS)->List D->Option (aq ds)
 | [],[]=>some ()
 | s::t,x::l=>match mU s x,dI t l with
  | some v,some w=>some (v,w)
  | _,_=>none
 | _,_=>none
def HO {R:Type} (t:Tag) (k:Tag->Option R):Option R:=match t with | .im b=>k (.im b) | .own=>k .own
def Cj {R:Type}:(s:DS)->s.T->(D->Option R)->Option R
 | .int k,n,K=>K (.int k n)
 | .bool,b,K=>K (.bool b)
 | .str,s,K=>K (.str s)
 | .im sz,x,K=>K (.sl (.im x.1) sz x.2)
 | .own sz,x,K=>K (.sl .own sz x)
 | .sl sz,x,K=>HO x.1 λt=>K (.sl t sz x.2)
 | .tg sz,x,K=>K (.sl x.1 sz x.2)
 | .bz _,_,K=>K .dead
 | .lr _ _,_,K=>K .dead
 | .ptr _ _,_,K=>K .dead
 | .c7,_,K=>K .dead
 | .eY,_,K=>K .dead
 | .dead,_,K=>K .dead
 | .any,x,K=>K x
def pB {R:Type}:(ds:List DS)->aq ds->(List D->Option R)->Option R
 | [],_,K=>K []
 | s::t,v,K=>Cj s v.1 λx=>pB t v.2 λl=>K (x::l)
def bR {R:Type} (ds:List DS) (l:List D) (K:aq ds->Option R):Option R:=match dI ds l with | some v=>K v | none=>none
inductive VS where
 | one (s:DS)
 | fk
 | agg (ds:List DS)
 deriving DecidableEq,Inhabited
abbrev VS.T:VS->Type
 | .one s=>s.T
 | .fk=>Bool
 | .agg ds=>aq ds
inductive RS where
 | val (v:VS) (bs:List (List DS))
 | ao (vs:List VS) (bs:List (List DS))
 deriving DecidableEq,Inhabited
abbrev xu:List VS->Type
 | []=>Unit
 | v::t=>v.T×xu t
abbrev zv:List (List DS)->Type
 | []=>Unit
 | b::t=>aq b×zv t
abbrev RS.T:RS->Type
 | .val v bs=>v.T×zv bs
 | .ao vs bs=>xu vs×zv bs
abbrev FB:Nat:=999999
def xF:List (Nat×Nat)->List C->Bool
 | [],[]=>true
 | x::l,.ptr (.e i) g c::t=>Nat.beq x.1 i&&(Nat.beq g 0&&(Nat.beq x.2 c&&(!(Nat.beq i FB)&&xF l t)))
 | x::l,.fn n [] []::t=>Nat.beq x.1 FB&&(Nat.beq x.2 n&&xF l t)
 | _,_=>false
def Jg (x:Nat×Nat):C:=match Nat.beq x.1 FB with
 | true=>.fn x.2 [] []
 | false=>.ptr (.e x.1) 0 x.2
def xG:List (Nat×Nat)->List C
 | []=>[]
 | x::l=>Jg x::xG l
def Jh:List C->Option (List (Nat×Nat))
 | []=>some []
 | .fn n [] []::t=>match Jh t with
  | some l=>some ((FB,n)::l)
  | none=>none
 | .ptr (.e i) _ c::t=>match Jh t with
  | some l=>some ((i,c)::l)
  | none=>none
 | _::_=>none
def vM (s:DS) (c:C):Option s.T:=
 match c with
 | .d x=>mU s x
 | .fn f' [] cap=>match s with
  | .lr f l=>match Nat.beq f f',xF l cap with
   | true,true=>some ()
   | _,_=>none
  | _=>none
 | .ptr (.e i') g c'=>match s with
  | .ptr i c=>match Nat.beq i i',Nat.beq g 0,Nat.beq c c' with
   | true,true,true=>some ()
   | _,_,_=>none
  | _=>none
 | .c7=>match s with
  | .c7=>some ()
  | _=>none
 | .eY=>match s with
  | .eY=>some ()
  | _=>none
 | .bz t'=>match s with
  | .bz t=>if t=t' then some () else none
  | _=>none
 | _=>none
def zN:(ds:List DS)->List C->Option (aq ds)
 | [],[]=>some ()
 | s::t,x::l=>match vM s x,zN t l with
  | some v,some w=>some (v,w)
  | _,_=>none
 | _,_=>none
def xM {R:Type}:(s:DS)->s.T->(C->Option R)->Option R
 | .bz t,_,K=>K (.bz t)
 | .lr f l,_,K=>K (.fn f [] (xG l))
 | .ptr i c,_,K=>K (.ptr (.e i) 0 c)
 | .c7,_,K=>K .c7
 | .eY,_,K=>K .eY
 | .dead,_,K=>K (.d .dead)
 | .int k,v,K=>K (.d (.int k v))
 | .bool,v,K=>K (.d (.bool v))
 | .str,v,K=>K (.d (.str v))
 | .im sz,x,K=>K (.d (.sl (.im x.1) sz x.2))
 | .own sz,x,K=>K (.d (.sl .own sz x))
 | .sl sz,x,K=>HO x.1 λt=>K (.d (.sl t sz x.2))
 | .tg sz,x,K=>K (.d (.sl x.1 sz x.2))
 | .any,x,K=>K (.d x)
def qh:(s:VS)->V->Option s.T
 | .one s,.one c=>vM s c
 | .fk,.one .fQ=>some true
 | .fk,.one .fk=>some false
 | .agg ds,.agg cs=>match mT cs with | some l=>dI ds l | none=>none
 | _,_=>none
def xK:(ss:List VS)->List V->Option (xu ss)
 | [],[]=>some ()
 | s::t,x::l=>match qh s x,xK t l with
  | some v,some w=>some (v,w)
  | _,_=>none
 | _,_=>none
def ux {R:Type}:(ds:List DS)->aq ds->(List C->Option R)->Option R
 | [],_,K=>K []
 | s::t,v,K=>xM s v.1 λx=>ux t v.2 λl=>K (x::l)
def qY:(ss:List (List DS))->List (List C)->Option (zv ss)
 | [],[]=>some ()
 | s::t,x::l=>match zN s x,qY t l with
  | some v,some w=>some (v,w)
  | _,_=>none
 | _,_=>none
def jH:(s:RS)->V×List (List C)->Option s.T
 | .val v bs,(x,out)=>match qh v x,qY bs out with
  | some a,some b=>some (a,b)
  | _,_=>none
 | .ao vs bs,(.ao xs,out)=>match xK vs xs,qY bs out with
  | some a,some b=>some (a,b)
  | _,_=>none
 | _,_=>none
def sK {R:Type}:(s:VS)->s.T->(V->Option R)->Option R
 | .one s,x,K=>xM s x λy=>K (.one y)
 | .fk,b,K=>HN b λt=>match t with | true=>K (.one .fQ) | false=>K (.one .fk)
 | .agg ds,x,K=>pB ds x λl=>K (.agg (l.map .d))
def uy {R:Type}:(ss:List VS)->xu ss->(List V->Option R)->Option R
 | [],_,K=>K []
 | s::t,x,K=>sK s x.1 λv=>uy t x.2 λl=>K (v::l)
def pA {R:Type}:(ss:List (List DS))->zv ss->(List (List C)->Option R)->Option R
 | [],_,K=>K []
 | s::t,x,K=>ux s x.1 λl=>pA t x.2 λu=>K (l::u)
def sJ {R:Type}:(s:RS)->s.T->(V×List (List C)->Option R)->Option R
 | .val v bs,x,K=>sK v x.1 λa=>pA bs x.2 λb=>K (a,b)
 | .ao vs bs,x,K=>uy vs x.1 λa=>pA bs x.2 λb=>K (.ao a,b)
def aA {R:Type} (s:RS) (o:Option (V×List (List C))) (K:s.T->Option R):Option R:=
 match o with
 | some x=>match jH s x with | some v=>K v | none=>none
 | none=>none
def PN {R:Type} (s:DS) (v:s.T) (K:D->Option R):Cj s v K=(Cj s v some).bind K:=by
 cases s<;>simp only[Cj,Option.bind];case sl sz=>obtain⟨t,rows⟩:=v;cases t<;>rfl
def xN {R:Type}:(ds:List DS)->(v:aq ds)->(K:List D->Option R)->pB ds v K=(pB ds v some).bind K
 | [],_,_=>rfl
 | s::t,v,K=>by
  simp only[pB];rw[PN s v.1,PN s v.1 (λx=>pB t v.2 λl=>some (x::l))];cases Cj s v.1 some with
  | none=>rfl
  | some x=>
   simp;rw[xN t v.2,xN t v.2 (λl=>some (x::l))];cases pB t v.2 some<;>rfl
def Ch {R:Type} (s:DS) (v:s.T) (K:C->Option R):xM s v K=(xM s v some).bind K:=by
 cases s<;>simp only[xM,Option.bind];case sl sz=>obtain⟨t,rows⟩:=v;cases t<;>rfl
def Ck {R:Type} (s:VS) (v:s.T) (K:V->Option R):sK s v K=(sK s v some).bind K:=by
 cases s with
 | one s=>simp only[sK];rw[Ch,Ch s v (λy=>some (V.one y))];cases xM s v some<;>rfl
 | fk=>cases v<;>rfl
 | agg ds=>simp only[sK];rw[xN,xN ds v (λl=>some (V.agg (l.map .d)))];cases pB ds v some<;>rfl
def Cm {R:Type}:(ss:List VS)->(v:xu ss)->(K:List V->Option R)->uy ss v K=(uy ss v some).bind K
 | [],_,_=>rfl
 | s::t,v,K=>by
  simp only[uy];rw[Ck s v.1,Ck s v.1 (λx=>uy t v.2 λl=>some (x::l))];cases sK s v.1 some with
  | none=>rfl
  | some x=>
   simp;rw[Cm t v.2,Cm t v.2 (λl=>some (x::l))];cases uy t v.2 some<;>rfl
def Ci {R:Type}:(ds:List DS)->(v:aq ds)->(K:List C->Option R)->ux ds v K=(ux ds v some).bind K
 | [],_,_=>rfl
 | s::t,v,K=>by
  simp only[ux];rw[Ch s v.1,Ch s v.1 (λx=>ux t v.2 λl=>some (x::l))];cases xM s v.1 some with
  | none=>rfl
  | some x=>
   simp;rw[Ci t v.2,Ci t v.2 (λl=>some (x::l))];cases ux t v.2 some<;>rfl
def vP {R:Type}:(ss:List (List DS))->(v:zv ss)->(K:List (List C)->Option R)->pA ss v K=(pA ss v some).bind K
 | [],_,_=>rfl
 | s::t,v,K=>by
  simp only[pA];rw[Ci s v.1,Ci s v.1 (λl=>pA t v.2 λu=>some (l::u))];cases ux s v.1 some with
  | none=>rfl
  | some x=>
   simp;rw[vP t v.2,vP t v.2 (λu=>some (x::u))];cases pA t v.2 some<;>rfl
def YG {R:Type} (s:RS) (v:s.T) (K:V×List (List C)->Option R):sJ s v K=(sJ s v some).bind K:=by
 cases s with
 | val s bs=>
  simp only[sJ];rw[Ck s v.1,Ck s v.1 (λa=>pA bs v.2 λb=>some (a,b))];cases sK s v.1 some with
  | none=>rfl
  | some x=>
   simp;rw[vP,vP bs v.2 (λb=>some (x,b))];cases pA bs v.2 some<;>rfl
 | ao ss bs=>
  simp only[sJ];rw[Cm ss v.1,Cm ss v.1 (λa=>pA bs v.2 λb=>some (V.ao a,b))];cases uy ss v.1 some with
  | none=>rfl
  | some x=>
   simp;rw[vP,vP bs v.2 (λb=>some (V.ao x,b))];cases pA bs v.2 some<;>rfl
def Q.row (ds:List DS) (l:List D):Q (List D):=
 .oh (λ_ k=>bR ds l λv=>pB ds v k)
  (by intro R k;unfold bR;cases dI ds l with | none=>rfl | some v=>exact xN ds v k) .ret
def Q.res (s:RS) (o:Option (V×List (List C))):Q (V×List (List C)):=
 .oh (λ_ k=>aA s o λv=>sJ s v k)
  (by
    intro R k
    unfold aA
    cases o with
    | none => rfl
    | some x =>
      simp only
      cases jH s x with
      | none => rfl
      | some v => exact YG s v k) .ret
def tp {α:Type}:List (Nat×α)->Nat->Option α
 | [],_=>none
 | (i,x)::t,n=>match Nat.beq i n with | true=>some x | false=>tp t n
def ae (n:Nat):Int:=n
def bL (n:Int):Option Nat:=if 0<=n then some n.toNat else none
def bS (R:List (List D)) (i c:Nat) (z:D):List (List D):=R.set i ((R.getD i []).set c z)
def whole (R:List (List D)):List (List D):=List.take R.length (List.drop 0 R)
def gd {R:Type} (b:Bool) (x:Option R):Option R:=bif b then x else none
def aO {R:Type} (n:Nat) (x:Option R):Option R:=bif decide (n<=9223372036854775807) then x else none
def rA {R:Type} (ds:List DS) (c n:Nat) (L:List (List D)) (i:Nat) (K:aq ds->Option R):Option R:=
 ay L[i]? λo=>bif decide (n<=(List.drop c o).length) then bR ds (List.take n (List.drop c o)) K else none
def A2 {R:Type} (x y:Option R):Option R:=match x with | some r=>some r | none=>y
def cC:(s:DS)->s.T->C
 | .int k,n=>.d (.int k n)
 | .bool,b=>.d (.bool b)
 | .str,s=>.d (.str s)
 | .im sz,x=>.d (.sl (.im x.1) sz x.2)
 | .own sz,x=>.d (.sl .own sz x)
 | .sl sz,x=>.d (.sl x.1 sz x.2)
 | .tg sz,x=>.d (.sl x.1 sz x.2)
 | .bz t,_=>.bz t
 | .lr f l,_=>.fn f [] (xG l)
 | .ptr i c,_=>.ptr (.e i) 0 c
 | .c7,_=>.c7
 | .eY,_=>.eY
 | .dead,_=>.d .dead
 | .any,x=>.d x
def bx:(ds:List DS)->aq ds->List C
 | [],_=>[]
 | s::t,v=>cC s v.1::bx t v.2
def U9 (ds:List DS) (c:List C):Option (aq ds):=zN ds c
abbrev oT (d t:Nat) (op:oc):gA:=⟨some d,op,some (t,true)⟩
structure iQ where
 row:Nat->Option (List DS)
 res:Nat->Option RS
 Kv:Nat->Nat->Bool
 no:Nat->Bool
def shD (im:Bool):D->Option DS
 | .int k _=>some (.int k)
 | .bool _=>some .bool
 | .str _=>some .str
 | .sl _ sz _=>some (if im then .im sz else .tg sz)
 | .dead=>some .dead
def Bh (im:Nat->Bool):Nat->List C->Option (List DS)
 | _,[]=>some []
 | i,.bz k::t=>match Bh (λ_=>false) (i+1) t with
  | some b=>some (.bz k::b)
  | none=>none
 | i,.fn f [] cap::t=>match Jh cap,Bh im (i+1) t with
  | some l,some b=>some (.lr f l::b)
  | _,_=>none
 | i,.ptr (.e j) _ c::t=>match Bh im (i+1) t with
  | some b=>some (.ptr j c::b)
  | none=>none
 | i,.c7::t=>match Bh im (i+1) t with
  | some b=>some (.c7::b)
  | none=>none
 | i,.eY::t=>match Bh im (i+1) t with
  | some b=>some (.eY::b)
  | none=>none
 | i,.d x::t=>match shD (im i) x,Bh im (i+1) t with
  | some a,some b=>some (a::b)
  | _,_=>none
 | _,_::_=>none
def aeh (Kv:Nat->Nat->Bool):List (List C)->Option (List (List DS))
 | []=>some []
 | b::t=>match Bh (Kv b.length) 0 b,aeh Kv t with
  | some x,some y=>some (x::y)
  | _,_=>none
def RS.atk:RS->List (List DS)->RS
 | .val v _,bs=>.val v bs
 | .ao vs _,bs=>.ao vs bs
def Ek (an:iQ) (dst:Nat) (l:List D):Q (List D):=
 match an.row dst with
 | some ds=>Q.row ds l
 | none=>pure l
def RS.boxes:RS->List (List DS)
 | .val _ bs=>bs
 | .ao _ bs=>bs
def Ug (an:iQ) (f:Nat) (bs:List (List C)) (o:Option (V×List (List C))):Q (V×List (List C)):=
 match an.no f with
 | true=>Q.no
 | false=>match an.res f with
  | some s=>match s.boxes with
   | _::_=>Q.res s o
   | []=>match aeh an.Kv bs with
    | some b=>Q.res (s.atk b) o
    | none=>Q.du o
  | none=>Q.du o
def Ze (vs:List V):DS->DS
 | .lr f []=>match Nat.beq f kN,vs with
  | true,.one (.fn _ _ cap)::_=>match Jh cap with
   | some l=>.lr f l
   | none=>.lr f []
  | _,_=>.lr f []
 | d=>d
def akj (vs:List V):RS->RS
 | .val v bs=>.val v (bs.map λb=>b.map (Ze vs))
 | .ao v bs=>.ao v (bs.map λb=>b.map (Ze vs))
def iQ.akp (an:iQ) (vs:List V):iQ:={ an with res:=λf=>(an.res f).map (akj vs) }
def XO (an:iQ) (Cl:bX) (dst:Nat) (f:Nat) (vs:List V) (ws:List Wr) (mv:Bool):Q (V×List Wr):=do
 AS ws (tX vs)
 let (rs,bs) <-z6 ws 40 (sA [] (tX vs)) 0
 let eR <-Q.du (uP rs vs)
 let dL <-Q.du (pL rs bs)
 let (r,out) <-Ug (an.akp eR) f dL (Cl f eR dL)
 if !mv&&(rs.isEmpty&&r.flat&&out.isEmpty) then pure (r,[])
 else do
  let gs <-Cz rs
  if out.length=rs.length then do
   let r' <-Q.du (r.pQ gs)
   let cy <-Q.du (rK gs out)
   Q.guard (tj cy bs)
   pure (r',jF rs cy bs ws)
  else do
   let e <-sF ws (.r (.l dst))
   let FD:=gs++[(.l dst,e.g+1)]
   let r' <-Q.du (r.pQ FD)
   let cy <-Q.du (rK FD out)
   let nb:=cy.getD rs.length []
   Q.guard (out.length==rs.length+1&&tj (cy.take rs.length) bs&&(cr e.v==0||cr e.v==nb.length) && !rs.contains (.l dst))
   pure (r',gC (.l dst) 0 nb ({ k:=.r (.l dst),v:=fR nb.length } :: jF rs cy bs ws))
def OW (tc:TC) (op:BinOp) (x y:V):Q D:=
 match x,y with
 | .one (.d (.int k a)),.one (.d (.int k' b))=>
  match op with
  | .quo=>do Q.guard (decide (k=k') && !decide (b=0));pure (.int k (k.wrap (a.tdiv b)))
  | .rem=>do Q.guard (decide (k=k') && !decide (b=0));pure (.int k (a.tmod b))
  | .shl=>do Q.guard (!decide (b < 0));pure (.int k (k.wrap (a * 2 ^ (Min.min b.toNat k.bits))))
  | .shr=>do Q.guard (!decide (b < 0));pure (.int k (a.fdiv (2 ^ (Min.min b.toNat k.bits))))
  | _=>Q.du (sG tc op x y)
 | .one (.d (.str a)),.one (.d (.str b))=>
  match op with
  | .add=>do Q.guard (decide (a.length+b.length<=9223372036854775807));pure (.str (a++b))
  | _=>Q.du (sG tc op x y)
 | _,_=>Q.du (sG tc op x y)
def BO (sz bytes:Nat) (v:V) (ws:List Wr) (src:List (List D)):Q (V×List Wr):=
 match v with
 | .one (.d (.sl (.im b) da _))=>do
  Q.guard (fS bytes src false&&(b&&da==sz&&decide (src.length * bytes<=140737488355328)))
  let e <-Q.ask src.isEmpty
  pure (.one (.d (.sl (if e then .im true else .own) sz src)),ws)
 | v=>xv sz bytes v ws src
def Ia (x:D) (p:List (Nat×Nat)) (y:D):D:=match p with
 | []=>y
 | (i,c)::p=>match x with
  | .sl .own sz rows=>.sl .own sz (rows.set i ((rows.getD i []).set c (eo ((rows.getD i []).getD c (.bool false)) p y)))
  | x=>x
def Fo (pl:Place) (i:Nat):V->Nat->List D->List D->D->List Wr->List Wr
 | v,c,z::t,o::os,x,ws=>
  Fo pl i (v.setCell pl.j (.d (Ia x (pl.p++[(i,c)]) z))) (c+1) t os (Ia x (pl.p++[(i,c)]) z)
   ({ k:=pl.k,v:=v.setCell pl.j (.d (Ia x (pl.p++[(i,c)]) z)),keep:=z.flat&&o.flat } :: { k:=.a pl.k,v:=V.dead } :: ws)
 | _,_,_,_,_,ws=>ws
def UR (ws:List Wr) (P:Place):C->Q (C×List Wr)
 | .view pl g sz off len=>
  match !(pl.k==P.k)&&pl.k.Mt with
  | true=>do
   let (e,x,rows) <-jO ws pl g sz
   Q.guard (off==0&&len==rows.length && !rows.isEmpty)
   pure (.d (.sl .own sz rows),nS ws pl.k (wE e.v pl x))
  | false=>oW ws P (.view pl g sz off len)
 | c=>oW ws P c
def ac8 (mv:Bool) (ws:List Wr) (P:Place) (y:C):Q (C×List Wr):=if mv then UR ws P y else oV ws P y
def TY (mv:Bool) (r:aJ) (ws:List Wr):Nat->List C->Q (List C×List Wr)
 | _,[]=>pure ([],ws)
 | c,y::t=>do
  let (y',ws) <-ac8 mv ws ⟨.b r c,0,[]⟩ y
  let (ys,ws) <-TY mv r ws (c+1) t
  pure (y'::ys,ws)
def Cd:List (Nat×Nat)->List (Nat×Nat)->Bool
 | [],[]=>true
 | (_,c)::p,(_,c')::p'=>Nat.beq c c'&&Cd p p'
 | _,_=>false
def GD:List (Nat×Nat)->List (Nat×Nat)->Bool
 | [],[]=>true
 | (i,_)::p,(i',_)::p'=>GD p p'&&Nat.beq i i'
 | _,_=>false
def US (ws:List Wr) (pl:Place) (g sz off len:Nat):Q (C×List Wr):=do
 let (e,x,rows) <-jO ws pl g sz
 Q.guard (decide (off+len<=rows.length))
 pure (.d (.sl (.im false) sz (aK ((rows.drop off).take len))),nS ws pl.k (e.v.setCell pl.j (.d (Ia x pl.p (.sl (.im false) sz (aK rows))))))
def UO (ws:List Wr) (P:Place):C->Q (C×List Wr)
 | .view pl g sz off len=>US ws pl g sz off len
 | .cY pl g a sz rows=>match (pl.k==P.k)&&(Nat.beq pl.j P.j&&Cd pl.p P.p) with
  | true=>do
   Q.guard (GD pl.p P.p)
   settle ws pl g a sz rows
  | false=>oV ws P (.cY pl g a sz rows)
 | c=>oV ws P c
def Qp (P:Place) (i:Nat) (ws:List Wr):Nat->List C->Q (List D×List Wr)
 | _,[]=>pure ([],ws)
 | c,y::t=>do
  let (y',ws) <-UO ws (P.sub i c) y
  match y' with
  | .d z=>do
   let (zs,ws) <-Qp P i ws (c+1) t
   pure (z::zs,ws)
  | _=>Q.no
def Nz:X->Nat
 | .s i=>i
 | .t i=>i
 | _=>0
def P' (an:iQ) (Cl:bX) (dst:Nat):oc->Q (V×List Wr)
 | .pick c a b=>do
  let v <-rd c
  match v with
  | .one (.d (.bool t))=>do
   let t <-Q.ask t
   let r <-rd (if t then a else b)
   pure (r,[])
  | _=>Q.no
 | .load n agg x=>do
  let v <-rd x
  match v with
  | .one (.ptr r g c)=>do
   let e <-Q.at_ (.r r)
   Q.guard (!r.iT&&e.g==g&&decide (c+n<=cr e.v))
   let cs <-wX r c n
   let r' <-lU agg cs
   pure (r',[])
  | .one (.pp cells)=>do
   Q.guard (decide (n<=cells.length))
   let l <-Ek an dst (cells.take n)
   let r' <-lU agg (l.map .d)
   pure (r',[])
  | .one (.eB pl g sz i c)=>do
   let (_,_,rows) <-jO [] pl g sz
   let row <-Q.du rows[i]?
   Q.guard (decide (c+n<=row.length))
   let l <-Ek an dst ((row.drop c).take n)
   let r' <-lU agg (rE pl g i c l)
   pure (r',[])
  | .one (.fn t f l)=>do
   let l <-Q.du (Cu (kN+1) (.fn t f l))
   Q.guard (l.length==n)
   let r' <-lU agg l
   pure (r',[])
  | _=>Q.no
 | .store mv n x v=>do
  let p <-rd x
  let (vv,ws) <-tk [] v
  Q.guard (vv.cells.length==n)
  match p with
  | .one (.ptr r g c)=>do
   let (cs,ws) <-TY mv r ws c vv.cells
   let e <-sF ws (.r r)
   Q.guard (!r.iT&&e.g==g&&decide (c+n<=cr e.v))
   pure (.ao [],gC r c cs ws)
  | .one (.eB pl g sz i c)=>do
   let (zs,ws) <-Qp pl i ws c vv.cells
   let (e,x0,rows) <-jO ws pl g sz
   let row <-Q.du rows[i]?
   Q.guard (decide (c+n<=row.length)&&zs.length==n)
   let dJ <-Ek an (Nz x) ((row.drop c).take n)
   Q.guard (dJ.length==n&&Im zs dJ)
   pure (.ao [],Fo pl i e.v c zs dJ x0 ws)
  | _=>Q.no
 | .bin tc op x y=>do
  let a <-rd x
  let b <-rd y
  let r <-OW tc op a b
  pure (.one (.d r),[])
 | .app sz bytes x y=>do
  let (a,ws) <-tk [] y
  let (src,ws) <-rowsOf sz ws a
  let (v,ws) <-tk ws x
  BO sz bytes v ws src
 | .BP sz bytes x y=>do
  let a <-rd y
  match a with
  | .one (.view pl g da off len)=>do
   let (_,_,rows) <-jO [] pl g da
   Q.guard (da==sz&&decide (off+len<=rows.length)&&sN ((rows.drop off).take len))
   let (v,ws) <-tk [] x
   BO sz bytes v ws ((rows.drop off).take len)
  | _=>do
   let (a,ws) <-tk [] y
   let (src,ws) <-rowsOf sz ws a
   let (v,ws) <-tk ws x
   BO sz bytes v ws src
 | .BN x y=>do
  let a <-rd y
  match a with
  | .one (.d (.str s))=>do
   let (v,ws) <-tk [] x
   BO 1 1 v ws (D.c8 s)
  | _=>Q.no
 | .call f args=>do
  let vf <-rd f
  match vf with
  | .one (.fn n first cap)=>do
   Q.guard (AG n)
   let (vs,ws) <-yS first.length [] args
   XO an Cl dst n (first.map .one++vs++cap.map .one) ws (args.any (·.1))
  | _=>Q.no
 | op=>ch Cl dst op
def JH {R:Type}:Nat->Nat->Nat->(Nat->Option R)->Option R
 | 0,_,_,_=>none
 | f+1,i,g,K=>match Nat.beq g i with | true=>K i | false=>JH f (i+1) g K
def fN {R:Type} (g:Nat) (K:Nat->Option R):Option R:=JH 400 0 g K
def JI {R:Type}:aJ->(aJ->Option R)->Option R
 | .e i,K=>K (.e i)
 | .l i,K=>K (.l i)
 | .g i,K=>K (.g i)
def JG {R:Type}:Key->(Key->Option R)->Option R
 | .s i,K=>K (.s i)
 | .b r c,K=>JI r λr=>fN c λc=>K (.b r c)
 | .r r,K=>JI r λr=>K (.r r)
 | .h i,K=>K (.h i)
 | .a k,K=>JG k λk=>K (.a k)
def fD {R:Type}:D->(D->Option R)->Option R
 | .int k n,K=>K (.int k n)
 | .bool b,K=>K (.bool b)
 | .str s,K=>K (.str s)
 | .sl t sz rows,K=>K (.sl t sz rows)
 | .dead,K=>K .dead
def fC {R:Type}:C->(C->Option R)->Option R
 | .d x,K=>fD x λx=>K (.d x)
 | .ptr r g c,K=>JI r λr=>fN g λg=>fN c λc=>K (.ptr r g c)
 | .eB pl g sz i c,K=>fN g λg=>fN c λc=>K (.eB pl g sz i c)
 | .view pl g sz off len,K=>fN g λg=>K (.view pl g sz off len)
 | .cY pl g a sz rows,K=>fN g λg=>fN a λa=>K (.cY pl g a sz rows)
 | .pp cells,K=>K (.pp cells)
 | .fn f a b,K=>K (.fn f a b)
 | .c7,K=>K .c7
 | .eY,K=>K .eY
 | .fQ,K=>K .fQ
 | .fk,K=>K .fk
 | .bz t,K=>K (.bz t)
 | .mp x,K=>fD x λx=>K (.mp x)
 | .gq i g,K=>fN g λg=>K (.gq i g)
 | .dead,K=>K .dead
def Cq {R:Type}:List C->(List C->Option R)->Option R
 | [],K=>K []
 | c::t,K=>fC c λc=>Cq t λt=>K (c::t)
def zV {R:Type}:List V->(List V->Option R)->Option R
 | [],K=>K []
 | .one c::t,K=>fC c λc=>zV t λt=>K (.one c::t)
 | .agg cs::t,K=>Cq cs λcs=>zV t λt=>K (.agg cs::t)
 | .ao vs::t,K=>zV t λt=>K (.ao vs::t)
def fV {R:Type}:V->(V->Option R)->Option R
 | .one c,K=>fC c λc=>K (.one c)
 | .agg cs,K=>Cq cs λcs=>K (.agg cs)
 | .ao vs,K=>zV vs λvs=>K (.ao vs)
def JE {R:Type}:List (List C)->(List (List C)->Option R)->Option R
 | [],K=>K []
 | c::t,K=>Cq c λc=>JE t λt=>K (c::t)
def Y7 {R:Type}:Bool->(Bool->Option R)->Option R
 | true,K=>K true
 | false,K=>K false
def JL {R:Type}:List Wr->(List Wr->Option R)->Option R
 | [],K=>K []
 | ⟨k,v,b⟩::t,K=>JG k λk=>fV v λv=>Y7 b λb=>JL t λt=>K (⟨k,v,b⟩::t)
def Cr {R:Type}:St->(St->Option R)->Option R
 | [],K=>K []
 | (k,⟨v,g⟩)::t,K=>JG k λk=>fV v λv=>fN g λg=>Cr t λt=>K ((k,⟨v,g⟩)::t)
def JJ {R:Type}:St->(St->Option R)->Option R
 | [],K=>K []
 | (k,⟨v,g⟩)::t,K=>fN g λg=>JJ t λt=>K ((k,⟨v,g⟩)::t)
def runK {α R:Type} (S:St):Q α->List Key->(α->List Key->Option R)->Option R
 | .ret a,rs,K=>K a rs
 | .get k f,rs,K=>runK S (f (S.get k)) (k::rs) K
 | .oh h _ f,rs,K=>h R λb=>runK S (f b) rs K
 | .no,_,_=>none
def Vt {R:Type} (S:St) (g:Option (Nat×Bool)) (K:Bool->St->List Key->Option R):Option R:=
 match g with
 | none=>K true S []
 | some (t,b)=>match S.get (.s t) with
  | ⟨.one (.d (.bool x)),c⟩=>HN x λx'=>K (x'==b) (S.put (.s t) ⟨.one (.d (.bool x')),c⟩) [.s t]
  | ⟨.ao [],_⟩=>K false S [.s t]
  | _=>none
def Co {R:Type} (r:aJ):Nat->Nat->St->(St->Option R)->Option R
 | 0,_,S,K=>K S
 | n+1,c,S,K=>match S.get (.b r c) with
  | ⟨.one (.d (.sl t sz rows)),g⟩=>HO t λt'=>Co r n (c+1) (S.put (.b r c) ⟨.one (.d (.sl t' sz rows)),g⟩) K
  | _=>Co r n (c+1) S K
def Fu {R:Type} (n:Nat) (v:V) (S:St) (K:St->Option R):Option R:=
 match v with
 | .one (.ptr r _ c)=>Co r n c S K
 | _=>K S
def Qe {R:Type} (op:oc) (S:St) (K:St->Option R):Option R:=
 match op with
 | .load n _ (.s i)=>Fu n (S.get (.s i)).v S K
 | .load n _ (.t i)=>Fu n (S.get (.s i)).v S K
 | _=>K S
def Ft {R:Type}:List RV->St->(St->Option R)->Option R
 | [],S,K=>K S
 | .cell t n _::l,S,K=>Fu n (S.get (.s t)).v S λS=>Ft l S K
 | .slot _::l,S,K=>Ft l S K
def Qa {R:Type} (an:iQ) (Cl:bX) (o:gA) (S:St) (K:St->List Key->List Wr->Option R):Option R:=
 Vt S o.guard λwant S rs=>
  match want with
  | true=>Qe o.op S λS=>runK S (P' an Cl (o.dst.getD 0) o.op) rs λx rs=>
   match o.dst with
   | some d=>K S rs ({ k:=.s d,v:=x.1 } :: x.2)
   | none=>K S rs x.2
  | false=>match o.dst with
   | some d=>K S rs [{ k:=.s d,v:=.ao [] }]
   | none=>K S rs []
def JA {R:Type} (an:iQ) (Cl:bX):List gA->St->(St->Option R)->Option R
 | [],S,K=>K S
 | o::t,S,K=>Qa an Cl o S λS _ ws=>JL ws λws=>JJ (S.ai ws) λS=>JA an Cl t S K
def JB {R:Type} (an:iQ) (Cl:bX):List gA->St->List l9->(St->List l9->Option R)->Option R
 | [],S,fs,K=>K S fs.reverse
 | o::t,S,fs,K=>Qa an Cl o S λS rs ws=>JL ws λws=>JJ (S.ai ws) λS=>JB an Cl t S (⟨rs.reverse,ws.map (·.k)⟩::fs) K
def St.mF (keep:Option (List Nat)) (gc:Bool) (S:St):Option St:=
 (match keep with | some l=>S.norm l | none=>some S).bind λS1=>if gc then S1.gc else some S1
def PY {R:Type} (an:iQ) (Cl:bX) (ops:List gA) (draw:Option (List (Nat×Nat))) (S:St) (K:St->Option R):Option R:=
 match draw with
 | none=>JA an Cl ops S K
 | some []=>JA an Cl ops S K
 | some ps=>JB an Cl ops S [] λS' fs=>match TO fs ps with | true=>K S' | false=>none
inductive jE where
 | skip
 | iY (keep:Option (List Nat)) (gc:Bool) (ops:List gA) (draw:Option (List (Nat×Nat)))
 | seq (a b:jE)
 | cond (c:X) (a b:jE)
 | block (id:Nat) (body:jE)
 | loop (id:Nat) (keep:Option (List Nat)) (gc:Bool) (body:jE)
 | join (id:Nat) (keep:Option (List Nat)) (gc:Bool) (a b:jE)
 | exit (id:Nat)
 | ret
 deriving Inhabited
def lp (keep:Option (List Nat)) (gc:Bool):ma->ma
 | .iY _ _ ops draw=>.iY keep gc ops draw
 | .seq a b=>.seq (lp keep gc a) b
 | .block id b=>.block id (lp keep gc b)
 | c=>c
def jE.CS:jE->Bool
 | .iY none false _ _=>true
 | .seq a _=>a.CS
 | .join _ _ _ a _=>a.CS
 | .block _ b=>b.CS
 | _=>false
def eP:jE->ma
 | .skip=>.skip
 | .iY keep gc ops draw=>.iY keep gc ops draw
 | .seq a b=>.seq (eP a) (eP b)
 | .cond c a b=>.cond c (eP a) (eP b)
 | .block id b=>.block id (eP b)
 | .loop _ keep gc b=>.loop (lp keep gc (eP b))
 | .join _ keep gc a b=>.seq (eP a) (lp keep gc (eP b))
 | .exit id=>.exit id
 | .ret=>.ret
abbrev kK (R:Type):=uh->St->Option R
def H9 {R:Type} (f:St->kK R->Option R) (K:kK R):kK R:=λe S=>
 match e with
 | .norm=>f S K
 | .exit i=>K (.exit i) S
 | .ret=>K .ret S
def OY {R:Type} (id:Nat) (K:kK R):kK R:=λe S=>
 match e with
 | .norm=>K .norm S
 | .exit i=>match Nat.beq i id with | true=>K .norm S | false=>K (.exit i) S
 | .ret=>K .ret S
def Tg {R:Type} (keep:Option (List Nat)) (gc:Bool) (next:St->Option R) (K:kK R):kK R:=λe S=>
 match e with
 | .norm=>match S.mF keep gc with | some S1=>Cr S1 next | none=>none
 | .exit i=>K (.exit i) S
 | .ret=>K .ret S
def GJ {R:Type} (id:Nat) (f:St->kK R->Option R) (keep:Option (List Nat)) (gc:Bool):Nat->St->kK R->Option R
 | 0,_,_=>none
 | m+1,S,K=>f S (Tg keep gc (λS1=>GJ id f keep gc m S1 K) K)
def Sn {R:Type} (id:Nat) (f:St->kK R->Option R):Nat->St->kK R->Option R
 | 0,_,_=>none
 | _+1,S,K=>f S K
def Sm {R:Type} (id:Nat) (keep:Option (List Nat)) (gc:Bool) (m:Nat) (f:St->kK R->Option R):St->kK R->Option R:=λS K=>
 match S.mF keep gc with
 | some S1=>Cr S1 λS1=>Sn id f m S1 K
 | none=>none
def PE {R:Type} (S:St) (c:X) (K:Bool->St->Option R):Option R:=
 match c with
 | .s i=>match S.get (.s i) with
  | ⟨.one (.d (.bool b)),g⟩=>HN b λt=>K t (S.put (.s i) ⟨.one (.d (.bool t)),g⟩)
  | _=>none
 | c=>runK S (rd c) [] λv _=>match v with
  | .one (.d (.bool b))=>HN b λt=>K t S
  | _=>none
def lq {R:Type} (an:iQ) (Cl:bX) (n:Nat):jE->St->kK R->Option R
 | .skip,S,K=>K .norm S
 | .iY keep gc ops draw,S,K=>match S.mF keep gc with
  | some S1=>Cr S1 λS1=>PY an Cl ops draw S1 λS'=>K .norm S'
  | none=>none
 | .seq a b,S,K=>lq an Cl n a S (H9 (lq an Cl n b) K)
 | .cond c a b,S,K=>PE S c λt S=>match t with
  | true=>lq an Cl n a S K
  | false=>lq an Cl n b S K
 | .block id b,S,K=>lq an Cl n b S (OY id K)
 | .loop id keep gc b,S,K=>match b.CS with
  | true=>match S.mF keep gc with
   | some S1=>Cr S1 λS1=>GJ id (lq an Cl n b) keep gc n S1 K
   | none=>none
  | false=>none
 | .join id keep gc a b,S,K=>match b.CS with
  | true=>lq an Cl n a S (H9 (Sm id keep gc n (lq an Cl n b)) K)
  | false=>none
 | .exit id,S,K=>K (.exit id) S
 | .ret,S,K=>K .ret S
structure vC where
 DU:Nat
 results:List RV
 body:jE
 forget:Bool
 deriving Inhabited
def vC.fn (k:vC):lk:=⟨k.DU,k.results,eP k.body,k.forget⟩
def Uk (results:List RV) (forget:Bool) (bx:List (List C)):kK (V×List (List C)):=λe S=>
 match e with
 | .exit _=>none
 | _=>Ft results S λS=>runK S (xP ⟨0,results,.skip,forget⟩ bx) [] λx _=>fV x.1 λv=>JE x.2 λb=>some (v,b)
def zT {R:Type}:List C->(List C->Option R)->Option R
 | [],K=>K []
 | .d (.sl t sz rows)::l,K=>HO t λt=>zT l λl=>K (.d (.sl t sz rows)::l)
 | c::l,K=>zT l λl=>K (c::l)
def Fv {R:Type}:List V->(List V->Option R)->Option R
 | [],K=>K []
 | .agg cs::l,K=>zT cs λcs=>Fv l λl=>K (.agg cs::l)
 | v::l,K=>Fv l λl=>K (v::l)
def Fq (an:iQ) (Cl:bX) (n:Nat) (fn:vC) (args:List V) (bx:List (List C)):Option (V×List (List C)):=
 match Nat.ble args.length fn.DU with
 | true=>Fv args λargs=>lq an Cl n fn.body (gk 0 args++dm 0 bx) (Uk fn.results fn.forget bx)
 | false=>none
end
section
inductive db where
 | bg
 | row (pl:Place) (o:Nat)
 | box (r:aJ) (o:Nat)
abbrev aw:=Nat->Option db
def jA (n:Nat) (fz:Nat×Nat):Prop:=∀j,j < n->¬ (fz.1<=j/\j < fz.2)
def cellOf (rows:List (List D)) (i c:Nat):Option D:=(rows[i]?).bind (·[c]?)
def kM {rows:List (List D)} {i c:Nat} {x:D}:cellOf rows i c=some x↔∃r,rows[i]? = some r/\r[c]? = some x:=by
 unfold cellOf;cases rows[i]?<;>simp
inductive fK (w:World) (L:aw):D->Value->Prop where
 | int {k n}:fK w L (.int k n) (.int k n)
 | bool {b}:fK w L (.bool b) (.bool b)
 | str {s}:fK w L (.str s) (.string ⟨s.toArray⟩)
 | nil {sz}:fK w L (.sl (.im true) sz []) (.slice none 0 0)
 | mE {sz a cap}:fK w L (.sl (.im false) sz []) (.slice (some a) 0 cap)
 | dead {v} (h:v.oneCell'=true):fK w L .dead v
 | pl {sz rows B o cap cur e fz} (val:Nat->Nat->Value) (aD:rows≠[]) (aY:0 < sz) (eC:rows.length<=cap) (hL:L B=some .bg)
  (hB:w.heap[B]? = some (.cells cur e fz)) (hlen:∀r∈rows,r.length=sz)
  (hv:∀i c x,cellOf rows i c=some x->cur[o+i * sz+c]? = some (val i c))
  (hr:∀i c x,cellOf rows i c=some x->fK w L x (val i c)) :
  fK w L (.sl (.im false) sz rows) (.slice (some ⟨B,o,none⟩) rows.length cap)
def uj (rows:List (List D)) (e:Nat):Prop:=(ni rows=false\/rows=[])->e=5
inductive bt (w:World) (L:aw):Place->D->Value->Prop where
 | plain {pl x v} (h:fK w L x v):bt w L pl x v
 | jg {pl sz a}:bt w L pl (.sl .own sz []) (.slice (some a) 0 0)
 | own {pl sz rows B o cap cur e fz} (val:Nat->Nat->Value) (aY:0 < sz) (hL:L B=some (.row pl o))
  (hB:w.heap[B]? = some (.cells cur e fz)) (c6:jA cur.size fz) (hlen:∀r∈rows,r.length=sz)
  (eC:rows.length<=cap) (dU:o+cap * sz<=cur.size)
  (hv:∀i c x,cellOf rows i c=some x->cur[o+i * sz+c]? = some (val i c))
  (hr:∀i c x,cellOf rows i c=some x->bt w L (pl.sub i c) x (val i c)) (hu:uj rows e) :
  bt w L pl (.sl .own sz rows) (.slice (some ⟨B,o,none⟩) rows.length cap)
def fK.wT {w:World} {L:aw} {x:D} {v:Value} (h:fK w L x v):v.oneCell'=true:=by
 cases h<;>first | rfl | omega
def bt.wT {w:World} {L:aw} {pl:Place} {x:D} {v:Value} (h:bt w L pl x v):v.oneCell'=true:=by
 cases h with
 | plain h=>exact h.wT
 | jg=>rfl
 | own=>rfl
def sx (w w':World) (L L':aw):Prop:=∀B,L B=some .bg->L' B=some .bg/\w'.heap[B]? = w.heap[B]?
def fK.mono {w w':World} {L L':aw} (fU:sx w w' L L') {x:D} {v:Value} (h:fK w L x v):fK w' L' x v:=by
 induction h with
 | int=>exact .int
 | bool=>exact .bool
 | str=>exact .str
 | nil=>exact .nil
 | mE=>exact .mE
 | dead h=>exact .dead h
 | pl val aD aY eC hL hB hlen hv hr ih=>exact .pl val aD aY eC (fU _ hL).1 ((fU _ hL).2.trans hB) hlen hv ih
def bt.move {w w':World} {L L':aw} (f:Place->Place) (U:Place->Prop)
  (hU:∀q i c,U q->U (q.sub i c)) (hf:∀q i c,U q->f (q.sub i c)=(f q).sub i c)
  (fU:sx w w' L L')
  (dr:∀B q o,U q->L B=some (.row q o)->L' B=some (.row (f q) o)/\w'.heap[B]? = w.heap[B]?)
  {pl:Place} {x:D} {v:Value} (h:bt w L pl x v):U pl->bt w' L' (f pl) x v:=by
 induction h with
 | plain h=>exactλ_=>.plain (h.mono fU)
 | jg=>exactλ_=>.jg
 | @own pl sz rows B o cap cur e fz val aY hL hB c6 hlen eC dU hv hr dW ih=>
  intro hu;obtain⟨h1,h2⟩:=dr B pl o hu hL;refine .own val aY h1 (h2.trans hB) c6 hlen eC dU hv ?_ dW;simp_all
def A3:∀r:List (List D),(aK r).length=r.length
 | []=>rfl
 | _::t=>by simp[aK,A3 t]
def acS:∀r:List D,HL r=r.map lW
 | []=>rfl
 | _::t=>by simp[HL,acS t]
def D9:∀r:List (List D),aK r=r.map (·.map lW)
 | []=>rfl
 | _::t=>by simp[aK,D9 t,acS]
def B9 (rows:List (List D)) (i c:Nat):cellOf (aK rows) i c=(cellOf rows i c).map lW:=by
 simp only[cellOf,D9,bQ];cases rows[i]? with
 | none=>rfl
 | some r=>simp
def fK.aqo {w:World} {L:aw} {x:D} {v:Value} (h:fK w L x v):lW x=x:=by
 cases h<;>simp[lW]
def bt.freeze {w w':World} {L L':aw} (U:Place->Prop)
  (hU:∀q i c,U q->U (q.sub i c))
  (fU:sx w w' L L')
  (dr:∀B q o,U q->L B=some (.row q o)->L' B=some .bg/\w'.heap[B]? = w.heap[B]?)
  {pl:Place} {x:D} {v:Value} (h:bt w L pl x v):U pl->fK w' L' (lW x) v:=by
 induction h with
 | plain h=>intro _;rw[h.aqo];exact h.mono fU
 | jg=>intro _;exact .mE
 | @own pl sz rows B o cap cur e fz val aY hL hB c6 hlen eC dU hv hr dW ih=>
  intro hu;obtain⟨h1,h2⟩:=dr B pl o hu hL;rw[<-A3 rows];cases wj:rows with
  | nil=>exact .mE
  | cons r0 t0=>
   rw[<-wj];refine .pl val (by rw[wj];simp[aK]) aY (by rw[A3];omega) h1 (h2.trans hB) ?_ ?_ ?_
   ·intro r eN;rw[D9] at eN;obtain⟨r1,h3,rfl⟩:=kJ.1 eN;simpa using hlen r1 h3
   ·intro i c x hx;rw[B9] at hx;cases hc:cellOf rows i c with
    | none=>simp_all
    | some y=>simp_all
   ·intro i c x hx;rw[B9] at hx;cases hc:cellOf rows i c with
    | none=>simp_all
    | some y=>
     simp only[hc,fJ,au] at hx;subst hx;simp_all
def Place.app (pl:Place) (p:List (Nat×Nat)):Place:={ pl with p:=pl.p++p }
def Place.BQ (pl:Place):pl.app []=pl:=by simp[Place.app]
def Place.qS (pl:Place) (i c:Nat) (p:List (Nat×Nat)):pl.app ((i,c)::p)=(pl.sub i c).app p:=by simp[Place.app,Place.sub]
def Place.E8 (pl:Place) (i c:Nat) (p:List (Nat×Nat)):pl.app (p++[(i,c)])=(pl.app p).sub i c:=by simp[Place.app,Place.sub]
def DT {sz:Nat} {rows:List (List D)} {i c:Nat} {p:List (Nat×Nat)}:ek (.sl .own sz rows) ((i,c)::p)=(cellOf rows i c).bind (ek · p):=by
 simp[ek,cellOf]
def AW {x y:D} {i c:Nat} {p:List (Nat×Nat)} (h:ek x ((i,c)::p)=some y):∃sz rows z,x = .sl .own sz rows/\cellOf rows i c=some z/\ek z p=some y:=by
 cases x with
 | sl t sz rows=>
  cases t with
  | own=>
   rw[DT] at h;cases hz:cellOf rows i c with
   | none=>simp_all
   | some z=>exact⟨sz,rows,z,rfl,hz,by simp_all⟩
  | im b=>simp[ek] at h
 | int=>simp[ek] at h
 | bool=>simp[ek] at h
 | str=>simp[ek] at h
 | dead=>simp[ek] at h
def bt.nav {w:World} {L:aw}:∀(p:List (Nat×Nat)) {pl:Place} {x y:D} {v:Value},bt w L pl x v->ek x p=some y->
  ∃u,bt w L (pl.app p) y u
 | [],pl,x,y,v,h,hn=>by
  simp only[ek,au] at hn;subst hn;rw[Place.BQ];exact⟨v,h⟩
 | (i,c)::p,pl,x,y,v,h,hn=>by
  obtain⟨sz,rows,z,rfl,hz,hy⟩:=AW hn;rw[Place.qS];cases h with
  | plain h=>cases h
  | jg=>simp[cellOf] at hz
  | own val aY hL hB c6 hlen eC dU hv hr dW=>exact bt.nav p (hr i c z hz) hy
def bt.nR {w:World} {L:aw} {pl:Place} {sz:Nat} {rows:List (List D)} {v:Value} (h:bt w L pl (.sl .own sz rows) v) :
  (rows=[]/\∃a,v = .slice (some a) 0 0)\/
  ∃B o cap cur e fz,∃val:Nat->Nat->Value,v = .slice (some ⟨B,o,none⟩) rows.length cap/\0 < sz/\L B=some (.row pl o)/\
   w.heap[B]? = some (.cells cur e fz)/\jA cur.size fz/\(∀r∈rows,r.length=sz)/\rows.length<=cap/\o+cap * sz<=cur.size/\
   (∀i c x,cellOf rows i c=some x->cur[o+i * sz+c]? = some (val i c))/\
   (∀i c x,cellOf rows i c=some x->bt w L (pl.sub i c) x (val i c))/\uj rows e:=by
 cases h with
 | plain h=>cases h
 | jg=>simp_all
 | own val aY hL hB c6 hlen eC dU hv hr dW=>exact .inr ⟨_,_,_,_,_,_,val,rfl,aY,hL,hB,c6,hlen,eC,dU,hv,hr,dW⟩
def Fg {rows:List (List D)} {i c:Nat} {dJ:D} (h:cellOf rows i c=some dJ) (z:D) (i' c':Nat) :
  cellOf (rows.set i ((rows.getD i []).set c z)) i' c'=if i'=i/\c'=c then some z else cellOf rows i' c':=by
 obtain⟨r,hr,hc⟩:=kM.1 h;have hi:=(cd.1 hr).1;have aU:=(cd.1 hc).1;have hg:rows.getD i []=r:=by simp_all
 rw[hg];unfold cellOf;by_cases h1:i=i'
 ·subst h1;simp only[dj,hi,nD,Option.bind_some,VX,hr];by_cases h2:c=c'
  ·simp_all
  ·simp[h2,Ne.symm h2]
 ·simp[h1,Ne.symm h1]
def Uz {rows:List (List D)} {sz i c:Nat} {z:D} (hlen:∀r∈rows,r.length=sz):∀r∈rows.set i ((rows.getD i []).set c z),r.length=sz:=by
 intro r hr;by_cases hi:i < rows.length
 ·rcases IK hr with h | h
  ·simp_all
  simp_all
 ·rw[List.set_eq_of_length_le (by omega)] at hr;simp_all
def wK {rows:List (List D)}:ni rows=false↔rows≠[]/\∀r∈rows,tV r=true:=by
 cases rows with
 | nil=>simp[ni]
 | cons r t=>simp[ni]
def uj.set {rows:List (List D)} {e i c:Nat} {dJ z:D} (h:uj rows e) (hc:cellOf rows i c=some dJ) (hz:Bq z dJ=true):uj (rows.set i ((rows.getD i []).set c z)) e:=by
 intro hn;obtain⟨r,hr,rk⟩:=kM.1 hc;have hi:=(cd.1 hr).1;have hn:=hn.resolve_right λe=>by
  simp_all
 obtain⟨h1,h2⟩:=wK.1 hn;have hg:rows.getD i []=r:=by simp_all
 refine h (.inl (wK.2 ⟨λe=>by simp_all,λq hq=>?_⟩));obtain⟨k,hk⟩:=vq hq;by_cases qt:i=k
 ·subst qt;rw[hr] at hk;simp at hk;subst hk;have:=h2 (r.set c z) (by rw[hg];exact ff (by rw[vp hi]));cases r with
  | nil=>simp at rk
  | cons d t=>
   cases t with
   | nil=>
    cases c with
    | zero=>
     simp at rk;subst rk;simp only[List.set,tV] at this ⊢;simp only[Bq,this,Wb,xo] at hz;exact hz
    | succ c=>simp at rk
   | cons d2 t=>cases c with
    | zero=>simp[tV] at this
    | succ c=>cases c<;>simp[tV] at this
 ·exact h2 q (ff (by rw[qR qt];exact hk))
def pH (w:World) (a:Addr) (u:Value) (B:Nat) (h:B≠a.block):(w.setCell a u).heap[B]? = w.heap[B]?:=by
 simp only[World.setCell,BD];rw[aI (λe=>h e.symm)]
def xZ (w:World) (B j:Nat) (u:Value) {cur:Array Value} {e:TypeId} {fz:Nat×Nat} (h:w.heap[B]? = some (.cells cur e fz)) :
  (w.setCell ⟨B,j,none⟩ u).heap[B]? = some (.cells (cur.setIfInBounds j u) e fz):=by
 simp[World.setCell,BD,h]
def alJ {sz i c i' c':Nat} (hc:c < sz) (ml:c' < sz) (h:¬ (i'=i/\c'=c)):i * sz+c≠i' * sz+c':=by
 intro e;apply h;have h1:(i * sz+c) / sz=i:=by rw[II,Nat.mul_add_div (by omega)];simp_all
 have h2:(i' * sz+c') / sz=i':=by rw[II,Nat.mul_add_div (by omega)];simp_all
 simp_all
def og {rows:List (List D)} {sz i c:Nat} {x:D} (hlen:∀r∈rows,r.length=sz) (h:cellOf rows i c=some x):i < rows.length/\c < sz:=by
 obtain⟨r,hr,hc⟩:=kM.1 h;obtain⟨hi,rfl⟩:=cd.1 hr;refine⟨hi,?_⟩;rw[<-hlen _ (bU hi)];exact(cd.1 hc).1
def bM (t q:Place):Prop:=∃r,q=t.app r
def bM.refl (t:Place):bM t t:=⟨[],(Place.BQ t).symm⟩
def bM.sub {t q:Place} (h:bM t q) (i c:Nat):bM t (q.sub i c):=by
 obtain⟨r,rfl⟩:=h;exact⟨r++[(i,c)],(Place.E8 t i c r).symm⟩
def Place.agc {t:Place} {r r':List (Nat×Nat)} (h:t.app r=t.app r'):r=r':=by
 simpa[Place.app] using h
def bM.Tk {t:Place} {i c:Nat}:¬ bM (t.sub i c) t:=by
 rintro⟨r,h⟩;have:t.p=t.p++[(i,c)]++r:=fW Place.p h;simp at this
def bM.apart {t q:Place} {i c i' c':Nat} (h:bM (t.sub i c) q) (h':bM (t.sub i' c') q):i=i'/\c=c':=by
 obtain⟨r,rfl⟩:=h;obtain⟨r',h'⟩:=h';have:t.p++[(i,c)]++r=t.p++[(i',c')]++r':=fW Place.p h';simp_all
def Nw {sz:Nat} {rows:List (List D)} {i c:Nat} {p:List (Nat×Nat)} {y z:D} (h:cellOf rows i c=some z) :
  eo (.sl .own sz rows) ((i,c)::p) y = .sl .own sz (rows.set i ((rows.getD i []).set c (eo z p y))):=by
 obtain⟨r,hr,hc⟩:=kM.1 h;have hg:rows.getD i []=r:=by simp_all
 have lP:r.getD c (.bool false)=z:=by simp_all
 rw[eo,hg,lP]
def bt.set {w:World} {L L':aw} {B o sz i c:Nat} {rows:List (List D)} {dJ y:D} {u:Value} (hc:cellOf rows i c=some dJ) :
  ∀(p:List (Nat×Nat)) {pl:Place} {x:D} {v:Value},bt w L pl x v->ek x p=some (.sl .own sz rows)->L B=some (.row (pl.app p) o)->
   (∀B' q o',L B'=some (.row q o')->q=pl.app p->B'=B)->
   sx w (w.setCell ⟨B,o+i * sz+c,none⟩ u) L L'->
   (∀B' q o',bM pl q->¬ bM ((pl.app p).sub i c) q->L B'=some (.row q o')->L' B'=some (.row q o'))->
   bt (w.setCell ⟨B,o+i * sz+c,none⟩ u) L' ((pl.app p).sub i c) y u->Bq y dJ=true->
   bt (w.setCell ⟨B,o+i * sz+c,none⟩ u) L' pl (eo x (p++[(i,c)]) y) v
 | [],pl,x,v,h,hn,hB,ri,fU,dr,hy,bF=>by
  simp only[ek,au] at hn;subst hn;rw[Place.BQ] at *;rcases h.nR with⟨rfl,_⟩ | ⟨B0,o0,cap,cur,e,fz,val,rfl,aY,hL,hH,c6,hlen,eC,dU,hv,hr,dW⟩
  ·simp[cellOf] at hc
  obtain rfl:=ri B0 pl o0 hL rfl;obtain rfl:o0=o:=by simp_all
  simp;rw[Nw hc,eo];obtain⟨hi,eJ⟩:=og hlen hc;have ale:=Uz (i:=i) (c:=c) (z:=y) hlen;have af:=by
   have:(i+1) * sz<=cap * sz:=p8 _ (by omega);rw[lJ] at this;omega
  have iu:(rows.set i ((rows.getD i []).set c y)).length=rows.length:=EJ ..;rw[<-iu];refine .own (λa b=>if a=i/\b=c then u else val a b) aY (dr _ _ _ (bM.refl _) bM.Tk hL) (xZ w B0 _ u hH) (by simp_all) ale (by omega) (by simp_all) ?_ ?_ (dW.set hc bF)
  ·intro a b x hx;rw[Fg hc] at hx;by_cases mj:a=i/\b=c
   ·obtain⟨rfl,rfl⟩:=mj;simp;rw[zj];simp only[dj];rw[aP (by omega)]
   ·simp only[mj,eX] at hx ⊢;obtain⟨ha,hb⟩:=og hlen hx;rw[zj,aI]
    ·simp_all
    ·have:=alJ eJ hb mj;omega
  ·intro a b x hx;rw[Fg hc] at hx;by_cases mj:a=i/\b=c
   ·simp_all
   ·simp only[mj,eX] at hx ⊢;refine bt.move id (bM (pl.sub a b)) (λq i c h=>h.sub i c) (λ_ _ _ _=>rfl) fU ?_ (hr a b x hx) (bM.refl _);intro B' q o' hq fY;have aD:=λh=>mj ⟨(bM.apart hq h).1,(bM.apart hq h).2⟩
    have rq:bM pl q:=by obtain⟨r,rfl⟩:=hq;exact⟨(a,b)::r,(Place.qS pl a b r).symm⟩
    refine⟨dr _ _ _ rq aD fY,pH _ _ _ _ ?_⟩;rintro rfl;rw[hL] at fY;simp at fY;rw[<-fY.1] at hq;exact bM.Tk hq
 | (a,b)::p,pl,x,v,h,hn,hB,ri,fU,dr,hy,bF=>by
  obtain⟨pX,qJ,z,rfl,hz,AB⟩:=AW hn;rcases h.nR with⟨rfl,_⟩ | ⟨B0,o0,cap,cur,e,fz,val,rfl,aY,hL,hH,c6,hlen,eC,dU,hv,hr,dW⟩
  ·simp[cellOf] at hz
  have ali:B0≠B:=by
   rintro rfl;rw[hL] at hB;simp at hB;have:=fW (λq:Place=>q.p.length) hB.1;simp[Place.app] at this
  have gn:=Fg hz (eo z (p++[(i,c)]) y);simp;rw[Nw hz];have iu:(qJ.set a ((qJ.getD a []).set b (eo z (p++[(i,c)]) y))).length=qJ.length:=EJ ..;have RY:∀q,bM (pl.sub a b) q->bM pl q:=by rintro q ⟨r,rfl⟩;exact⟨(a,b)::r,(Place.qS pl a b r).symm⟩
  have ht:bM (pl.sub a b) ((pl.app ((a,b)::p)).sub i c):=by rw[Place.qS];exact⟨p++[(i,c)],(Place.E8 _ i c p).symm⟩
  rw[<-iu]
  refine .own val aY (dr _ _ _ (bM.refl _) ?_ hL) ((pH _ _ _ _ ali).trans hH) c6 (Uz hlen) (by omega) dU ?_ ?_ (dW.set hz (by
    obtain⟨_, _, _, h7, _⟩ : ∃ (t : Tag) (s : Nat) (R : List (List D)), eo z (p ++ [(i, c)]) y = .sl t s R /\ True := by
      cases p with
      | nil =>
        simp only[ek, au] at AB
        subst AB
        exact⟨_, _, _, rfl, trivial⟩
      | cons x0 p0 =>
        obtain⟨s1, R1, z1, rfl, _, _⟩ := AW AB
        exact⟨_, _, _, rfl, trivial⟩
    rw[h7]; rfl))
  ·rintro⟨r,h1⟩;obtain⟨r2,h2⟩:=ht;have h3:=fW (λq:Place=>q.p.length) h1;have h4:=fW (λq:Place=>q.p.length) h2;simp[Place.app,Place.sub] at h3 h4
  ·intro a' b' x hx;rw[gn] at hx;by_cases mj:a'=a/\b'=b
   ·simp_all
   simp_all
  ·intro a' b' x hx;rw[gn] at hx;by_cases mj:a'=a/\b'=b
   ·obtain⟨rfl,rfl⟩:=mj;simp at hx;subst hx;rw[Place.qS] at hB ri dr hy;exact bt.set hc p (hr _ _ z hz) AB hB ri fU (λB' q o' h1 h2 h3=>dr B' q o' (RY q h1) h2 h3) hy bF
   ·simp only[mj,eX] at hx;refine bt.move id (bM (pl.sub a' b')) (λq i c h=>h.sub i c) (λ_ _ _ _=>rfl) fU ?_ (hr a' b' x hx) (bM.refl _);intro B' q o' hq fY;have aD:=λh=>mj ⟨(bM.apart hq h).1,(bM.apart hq h).2⟩
    have qv:¬ bM ((pl.app ((a,b)::p)).sub i c) q:=by
     rintro⟨r,rfl⟩;apply aD;obtain⟨r2,h2⟩:=ht;rw[h2];exact⟨r2++r,by simp[Place.app]⟩
    have rq:bM pl q:=by obtain⟨r,rfl⟩:=hq;exact⟨(a',b')::r,(Place.qS pl a' b' r).symm⟩
    refine⟨dr _ _ _ rq qv fY,pH _ _ _ _ ?_⟩;rintro rfl;have:=fY;rw[hB] at this;simp at this;apply aD;rw[<-this.1,Place.qS];exact⟨p,rfl⟩
def bt.subst {w:World} {L L':aw} {z y:D} :
  ∀(p:List (Nat×Nat)) {pl:Place} {x:D} {v:Value},bt w L pl x v->ek x p=some z->
   sx w w L L'->
   (∀B' q o',bM pl q->¬ bM (pl.app p) q->L B'=some (.row q o')->L' B'=some (.row q o'))->
   (∀u,bt w L (pl.app p) z u->bt w L' (pl.app p) y u)->yv y=false->
   bt w L' pl (eo x p y) v
 | [],pl,x,v,h,hn,fU,dr,hy,bF=>by
  simp only[ek,au] at hn;subst hn;rw[Place.BQ] at hy;exact hy v h
 | (a,b)::p,pl,x,v,h,hn,fU,dr,hy,bF=>by
  obtain⟨pX,qJ,z0,rfl,hz,AB⟩:=AW hn;rcases h.nR with⟨rfl,_⟩ | ⟨B0,o0,cap,cur,e,fz,val,rfl,aY,hL,hH,c6,hlen,eC,dU,hv,hr,dW⟩
  ·simp[cellOf] at hz
  have gn:=Fg hz (eo z0 p y);rw[Nw hz];have iu:(qJ.set a ((qJ.getD a []).set b (eo z0 p y))).length=qJ.length:=EJ ..;have RY:∀q,bM (pl.sub a b) q->bM pl q:=by rintro q ⟨r,rfl⟩;exact⟨(a,b)::r,(Place.qS pl a b r).symm⟩
  have ht:bM (pl.sub a b) (pl.app ((a,b)::p)):=by rw[Place.qS];exact⟨p,rfl⟩
  rw[<-iu]
  refine .own val aY (dr _ _ _ (bM.refl _) ?_ hL) hH c6 (Uz hlen) (by omega) dU ?_ ?_ (dW.set hz (by
    have : yv (eo z0 p y) = false := by
      cases p with
      | nil => exact bF
      | cons x0 p0 => obtain⟨s1, R1, z1, rfl, _, _⟩ := AW AB; rfl
    simp[Bq, this]))
  ·rintro⟨r,h1⟩;have h3:=fW (λq:Place=>q.p.length) h1;simp[Place.app,Place.sub] at h3
  ·intro a' b' x hx;rw[gn] at hx;by_cases mj:a'=a/\b'=b
   ·simp_all
   simp_all
  ·intro a' b' x hx;rw[gn] at hx;by_cases mj:a'=a/\b'=b
   ·obtain⟨rfl,rfl⟩:=mj;simp at hx;subst hx;rw[Place.qS] at dr hy;exact bt.subst p (hr _ _ z0 hz) AB fU (λB' q o' h1 h2 h3=>dr B' q o' (RY q h1) h2 h3) hy bF
   ·simp only[mj,eX] at hx;refine bt.move id (bM (pl.sub a' b')) (λq i c h=>h.sub i c) (λ_ _ _ _=>rfl) fU ?_ (hr a' b' x hx) (bM.refl _);intro B' q o' hq fY;have aD:=λh=>mj ⟨(bM.apart hq h).1,(bM.apart hq h).2⟩
    have qv:¬ bM (pl.app ((a,b)::p)) q:=by
     rintro⟨r,rfl⟩;apply aD;obtain⟨r2,h2⟩:=ht;rw[h2];exact⟨r2++r,by simp[Place.app]⟩
    have rq:bM pl q:=by obtain⟨r,rfl⟩:=hq;exact⟨(a',b')::r,(Place.qS pl a' b' r).symm⟩
    exact⟨dr _ _ _ rq qv fY,rfl⟩
end
section
def BL (w:World) (L:aw) (pl:Place) (sz off len:Nat) (v:Value):Prop:=
 (len=0/\∃a,v = .slice (some a) 0 0)\/
 ∃B o cap cur e fz,v = .slice (some ⟨B,o+off * sz,none⟩) len cap/\0 < sz/\L B=some (.row pl o)/\w.heap[B]? = some (.cells cur e fz)/\
  jA cur.size fz/\len<=cap/\o+off * sz+cap * sz<=cur.size/\(off=0->len=0->e=5)
def qb (w:World) (L:aw) (pl:Place) (sz:Nat) (rows:List (List D)) (t:Place) (v:Value):Prop:=
 (rows=[]/\∃a,v = .slice (some a) 0 0)\/
 ∃B o cap cur e fz n0,∃val:Nat->Nat->Value,v = .slice (some ⟨B,o,none⟩) rows.length cap/\0 < sz/\(L B=some (.row pl o)\/L B=some (.row t o))/\
  w.heap[B]? = some (.cells cur e fz)/\jA cur.size fz/\(∀r∈rows,r.length=sz)/\rows.length<=cap/\o+cap * sz<=cur.size/\
  (∀i c x,cellOf rows i c=some x->cur[o+i * sz+c]? = some (val i c))/\
  (∀i c x,cellOf rows i c=some x->bt w L ((if i < n0 then pl else t).sub i c) x (val i c))/\uj rows e
mutual
def C.clean:C->Bool
 | .d (.sl .own _ _)=>false
 | .cY .. => false
 | .bz _=>false
 | .mp _=>false
 | .fn _ a b=>jZ a&&jZ b
 | _=>true
def jZ:List C->Bool
 | []=>true
 | c::t=>c.clean&&jZ t
end
mutual
def V.clean:V->Bool
 | .one c=>c.clean
 | .agg cs=>jZ cs
 | .ao vs=>nE vs
def nE:List V->Bool
 | []=>true
 | v::t=>v.clean&&nE t
end
def jG:∀{l:List C} {i:Nat} {c:C},jZ l=true->l[i]? = some c->c.clean=true
 | [],_,_,_,h=>by simp at h
 | x::t,0,c,h,hc=>by simp only[jZ,cI] at h;simp_all
 | x::t,i+1,c,h,hc=>by simp only[jZ,cI] at h;exact jG h.2 (by simpa using hc)
def Jm:∀{l:List V} {i:Nat} {c:V},nE l=true->l[i]? = some c->c.clean=true
 | [],_,_,_,h=>by simp at h
 | x::t,0,c,h,hc=>by simp only[nE,cI] at h;simp_all
 | x::t,i+1,c,h,hc=>by simp only[nE,cI] at h;exact Jm h.2 (by simpa using hc)
def IS (x:D) (es:Array MapEntry):Prop:=
 ∃(b:Bool) (rows:List (List D)) (l:List (List UInt8×Bool)),x = .sl (.im b) 2 rows/\rows=l.map (λp=>[.str p.1,.bool p.2])/\es.toList.map (λe=>(e.key,e.val))=l.map (λp=>(Value.string ⟨p.1.toArray⟩,Value.bool p.2))
def Key.aT:Key->Bool
 | .s _=>true
 | .b _ _=>true
 | _=>false
def WC (len:Nat) (v:Value):Prop:=∃b c,v = .slice b len c/\len<=c/\b.isSome=true
section
variable (nm:FuncId->Option Nat) (w:World) (L:aw) (γ:Key->Nat)
inductive aC:Key->Nat->C->Value->Prop where
 | d {k j x v} (h:bt w L ⟨k,j,[]⟩ x v):aC k j (.d x) v
 | ptr {k j r g c v} (hv:∃ad,v = .pointer (some ad)) (hg:g<=γ (.r r))
  (h:g=γ (.r r)->∃B o,L B=some (.box r o)/\v = .pointer (some ⟨B,o+c,none⟩)):aC k j (.ptr r g c) v
 | eB {k j pl g sz i c v} (hv:∃ad,v = .pointer (some ad)) (hh:pl.k.aT=true) (hg:g<=γ pl.k)
  (h:g=γ pl.k->∃B o,L B=some (.row pl o)/\v = .pointer (some ⟨B,o+i * sz+c,none⟩)):aC k j (.eB pl g sz i c) v
 | pp {k j cells B o cur e fz} (hL:L B=some .bg) (hB:w.heap[B]? = some (.cells cur e fz))
  (h:∀q x,cells[q]? = some x->∃u,cur[o+q]? = some u/\fK w L x u):aC k j (.pp cells) (.pointer (some ⟨B,o,none⟩))
 | view {k j pl g sz off len v} (hv:WC len v) (hh:pl.k.aT=true) (hg:g<=γ pl.k) (h:g=γ pl.k->BL w L pl sz off len v):aC k j (.view pl g sz off len) v
 | cY {k j pl g a sz rows v} (hv:v.oneCell'=true) (hh:pl.k.aT=true) (hg:g<=γ pl.k) (ha:a<=γ (.a pl.k))
  (h:g=γ pl.k->a=γ (.a pl.k)->qb w L pl sz rows ⟨k,j,[]⟩ v):aC k j (.cY pl g a sz rows) v
 | fn {k j f first cap cj} {fs cs:Array Value} (j8:f < kN) (hf:nm cj=some f) (h1:first.length=fs.size) (h2:cap.length=cs.size) (aU:jZ first=true/\jZ cap=true)
  (h3:∀(i:Nat) x u,first[i]? = some x->fs[i]? = some u->aC k j x u)
  (h4:∀(i:Nat) x u,cap[i]? = some x->cs[i]? = some u->aC k j x u):aC k j (.fn f first cap) (.func (.func cj) fs cs)
 | fns {k j f l v B o cap cur e fz} (val:Nat->Value) (hf:(f=kN/\v = .slice (some ⟨B,o,none⟩) l.length cap/\l.length<=cap)\/(f=kN+1/\v = .pointer (some ⟨B,o,none⟩)))
  (hL:L B=some .bg) (hB:w.heap[B]? = some (.cells cur e fz)) (aU:jZ l=true) (hv:∀i,i < l.length->cur[o+i]? = some (val i))
  (h:∀(i:Nat) x,l[i]? = some x->aC k j x (val i)):aC k j (.fn f [] l) v
 | c7 {k j}:aC k j .c7 (.pointer none)
 | eY {k j}:aC k j .eY .nilFunc
 | fQ {k j}:aC k j .fQ .nilIface
 | fk {k j t u}:aC k j .fk (.iface t u)
 | bz {k j t v} (hk:∃r c,k = .b r c) (hv:v.oneCell'=true):aC k j (.bz t) v
 | mp {k j x v} (h:∃B es clock,v = .map (some B)/\L B=some (.row ⟨k,j,[]⟩ 0)/\w.heap[B]? = some (.map es clock)/\IS x es):aC k j (.mp x) v
 | gq {k j i g v} (hv:∃B,v = .map (some B)) (hg:g<=γ (.b (.g i) 0)) (h:g=γ (.b (.g i) 0)->∃B,L B=some (.row ⟨.b (.g i) 0,0,[]⟩ 0)/\v = .map (some B)):aC k j (.gq i g) v
 | dead {k j v}:aC k j .dead v
inductive bJ:Key->V->Value->Prop where
 | one {k c v} (h:aC nm w L γ k 0 c v):bJ k (.one c) v
 | agg {k cs} {vs:Array Value} (hl:cs.length=vs.size) (h:∀(j:Nat) c u,cs[j]? = some c->vs[j]? = some u->aC nm w L γ k j c u):bJ k (.agg cs) (.agg vs)
 | ao {k vs} {us:Array Value} (hl:vs.length=us.size) (aU:nE vs=true) (h:∀(i:Nat) x u,vs[i]? = some x->us[i]? = some u->bJ k x u):bJ k (.ao vs) (.tuple us)
end
def aC.Qr {nm:FuncId->Option Nat} {w:World} {L:aw} {γ:Key->Nat} {k:Key} {j tag:Nat} {l:List C} {v:Value} (ht:kN<=tag) (h:aC nm w L γ k j (.fn tag [] l) v) :
  ∃B o cap cur e fz,∃val:Nat->Value,((tag=kN/\v = .slice (some ⟨B,o,none⟩) l.length cap/\l.length<=cap)\/(tag=kN+1/\v = .pointer (some ⟨B,o,none⟩)))/\
   L B=some .bg/\w.heap[B]? = some (.cells cur e fz)/\jZ l=true/\(∀i,i < l.length->cur[o+i]? = some (val i))/\∀(i:Nat) x,l[i]? = some x->aC nm w L γ k j x (val i):=by
 cases h with
 | fn j8=>omega
 | fns val hf hL hB aU hv h=>exact⟨_,_,_,_,_,_,val,hf,hL,hB,aU,hv,h⟩
def aC.wT {nm:FuncId->Option Nat} {w:World} {L:aw} {γ:Key->Nat} {k:Key} {j:Nat} {c:C} {v:Value} (h:aC nm w L γ k j c v) (hc:c≠.dead):v.oneCell'=true:=by
 cases h with
 | d h=>exact h.wT
 | ptr hv=>obtain⟨ad,rfl⟩:=hv;rfl
 | eB hv=>obtain⟨ad,rfl⟩:=hv;rfl
 | pp=>rfl
 | view hv=>obtain⟨b,c,rfl,_⟩:=hv;rfl
 | cY hv=>exact hv
 | fn=>rfl
 | fns val hf=>rcases hf with⟨_,rfl,_⟩ | ⟨_,rfl⟩<;>rfl
 | c7=>rfl
 | eY=>rfl
 | fQ=>rfl
 | fk=>rfl
 | bz hk hv=>exact hv
 | mp h=>obtain⟨B,es,clock,rfl,_⟩:=h;rfl
 | gq hv=>obtain⟨B,rfl⟩:=hv;rfl
 | dead=>simp_all
structure Step (w w':World) (L L':aw) (γ γ':Key->Nat):Prop where
 bg:sx w w' L L'
 dP:∀k,γ k<=γ' k
 view:∀B q o,q.k.aT=true->γ' q.k=γ q.k->L B=some (.row q o)->L' B=some (.row q o)/\
  ∀cur e fz,w.heap[B]? = some (.cells cur e fz)->∃ei:Array Value,w'.heap[B]? = some (.cells ei e fz)/\ei.size=cur.size
 app:∀B q o,q.k.aT=true->γ' q.k=γ q.k->γ' (.a q.k)=γ (.a q.k)->L B=some (.row q o)->w'.heap[B]? = w.heap[B]?
 box:∀B r o,γ' (.r r)=γ (.r r)->L B=some (.box r o)->L' B=some (.box r o)
def BL.step {w w':World} {L L':aw} {γ γ':Key->Nat} (hs:Step w w' L L' γ γ') {pl:Place} {sz off len:Nat} {v:Value}
  (hh:pl.k.aT=true) (hk:γ' pl.k=γ pl.k) (h:BL w L pl sz off len v):BL w' L' pl sz off len v:=by
 rcases h with h | ⟨B,o,cap,cur,e,fz,rfl,aY,hL,hB,c6,hc,hr,h8⟩
 ·exact .inl h
 ·obtain⟨h1,h2⟩:=hs.view B pl o hh hk hL;obtain⟨ei,h3,h4⟩:=h2 _ _ _ hB;exact .inr ⟨B,o,cap,ei,e,fz,rfl,aY,h1,h3,by simp_all,hc,by omega,h8⟩
def Place.at (q:Place) (k:Key) (j:Nat):Place:=⟨k,j,q.p⟩
def qb.step {w w':World} {L L':aw} {γ γ':Key->Nat} (hs:Step w w' L L' γ γ') {pl:Place} {k k':Key} {j j':Nat} {sz:Nat} {rows:List (List D)} {v:Value}
  (hh:pl.k.aT=true) (hk:γ' pl.k=γ pl.k) (ha:γ' (.a pl.k)=γ (.a pl.k))
  (ht:∀B q o,q.k=k->q.j=j->L B=some (.row q o)->L' B=some (.row (q.at k' j') o)/\w'.heap[B]? = w.heap[B]?)
  (h:qb w L pl sz rows ⟨k,j,[]⟩ v):qb w' L' pl sz rows ⟨k',j',[]⟩ v:=by
 rcases h with h | ⟨B,o,cap,cur,e,fz,n0,val,rfl,aY,hL,hB,c6,hlen,hc,hr,hv,hd,dW⟩
 ·exact .inl h
 ·have dD:∀i c x,cellOf rows i c=some x->bt w' L' ((if i < n0 then pl else⟨k',j',[]⟩).sub i c) x (val i c):=by
   intro i c x hx;have h0:=hd i c x hx;by_cases hi:i < n0
   ·rw[aP hi] at h0 ⊢;refine bt.move id (λq=>q.k=pl.k) (λ_ _ _ h=>h) (λ_ _ _ _=>rfl) hs.bg ?_ h0 rfl;intro B q o hq hL;have wi:γ' q.k=γ q.k:=by simp_all
    have RH:γ' (.a q.k)=γ (.a q.k):=by simp_all
    have hq0:q.k.aT=true:=by simp_all
    exact⟨(hs.view B q o hq0 wi hL).1,hs.app B q o hq0 wi RH hL⟩
   ·rw[aI hi] at h0 ⊢;exact bt.move (λq=>q.at k' j') (λq=>q.k=k/\q.j=j) (λ_ _ _ h=>h) (λ_ _ _ _=>rfl) hs.bg (λB q o hq hL=>ht B q o hq.1 hq.2 hL) h0 ⟨rfl,rfl⟩
  rcases hL with hL | hL
  ·exact .inr ⟨B,o,cap,cur,e,fz,n0,val,rfl,aY,.inl (hs.view B pl o hh hk hL).1,(hs.app B pl o hh hk ha hL).trans hB,c6,hlen,hc,hr,hv,dD,dW⟩
  ·have:=ht B _ o rfl rfl hL;exact .inr ⟨B,o,cap,cur,e,fz,n0,val,rfl,aY,.inr this.1,this.2.trans hB,c6,hlen,hc,hr,hv,dD,dW⟩
def aC.step {nm:FuncId->Option Nat} {w w':World} {L L':aw} {γ γ':Key->Nat} (hs:Step w w' L L' γ γ') {k k':Key} {j j':Nat}
  (kD:∀B q o,q.k=k->q.j=j->L B=some (.row q o)->L' B=some (.row (q.at k' j') o)/\w'.heap[B]? = w.heap[B]?)
  {c:C} {v:Value} (h:aC nm w L γ k j c v) (hkk:(∃r c,k = .b r c)->∃r c,k' = .b r c:=by first | exactλh=>h | exactλ_=>⟨_,_,rfl⟩ | (rintro⟨r,c,h⟩;cases h;done)):aC nm w' L' γ' k' j' c v:=by
 induction h with
 | d h=>
  refine .d ?_;exact bt.move (λq=>q.at k' j') (λq=>q.k=_/\q.j=_) (λ_ _ _ h=>h) (λ_ _ _ _=>rfl) hs.bg (λB q o hq hL=>kD B q o hq.1 hq.2 hL) h ⟨rfl,rfl⟩
 | @ptr r g c v hv hg h=>
  refine .ptr hv (iD hg (hs.dP _)) ?_;intro he;have:=vt (he▸hg) (hs.dP _);obtain⟨B,o,h1,h2⟩:=h (he.trans this);exact⟨B,o,hs.box B r o this h1,h2⟩
 | @eB pl g sz i c v hv hh hg h=>
  refine .eB hv hh (iD hg (hs.dP _)) ?_;intro he;have:=vt (he▸hg) (hs.dP _);obtain⟨B,o,h1,h2⟩:=h (he.trans this);exact⟨B,o,(hs.view B pl o hh this h1).1,h2⟩
 | pp hL hB h=>
  refine .pp (hs.bg _ hL).1 ((hs.bg _ hL).2.trans hB) ?_;intro q x hx;obtain⟨u,h1,h2⟩:=h q x hx;exact⟨u,h1,h2.mono hs.bg⟩
 | @view pl g sz off len v hv hh hg h=>
  refine .view hv hh (iD hg (hs.dP _)) ?_;intro he;have:=vt (he▸hg) (hs.dP _);exact(h (he.trans this)).step hs hh this
 | @cY pl g a sz rows v hv hh hg ha h=>
  refine .cY hv hh (iD hg (hs.dP _)) (iD ha (hs.dP _)) ?_;intro he ZF;have h1:=vt (he▸hg) (hs.dP _);have h2:=vt (ZF▸ha) (hs.dP _);exact(h (he.trans h1) (ZF.trans h2)).step hs hh h1 h2 kD
 | fn j8 hf h1 h2 aU h3 h4 ta td=>exact .fn j8 hf h1 h2 aU ta td
 | fns val hf hL hB aU hv h ih=>exact .fns val hf (hs.bg _ hL).1 ((hs.bg _ hL).2.trans hB) aU hv ih
 | c7=>exact .c7
 | eY=>exact .eY
 | fQ=>exact .fQ
 | fk=>exact .fk
 | bz hk hv=>exact .bz (hkk hk) hv
 | mp h=>
  obtain⟨B,es,clock,rfl,h1,h2,h3⟩:=h;obtain⟨g1,g2⟩:=kD B _ 0 rfl rfl h1;exact .mp ⟨B,es,clock,rfl,g1,g2.trans h2,h3⟩
 | @gq i g v hv hg h=>
  refine .gq hv (iD hg (hs.dP _)) ?_;intro he;have:=vt (he▸hg) (hs.dP _);obtain⟨B,h1,h2⟩:=h (he.trans this);exact⟨B,(hs.view B _ 0 rfl this h1).1,h2⟩
 | dead=>exact .dead
def bJ.step {nm:FuncId->Option Nat} {w w':World} {L L':aw} {γ γ':Key->Nat} (hs:Step w w' L L' γ γ') {k k':Key}
  (kD:∀B q o,q.k=k->L B=some (.row q o)->L' B=some (.row (q.at k' q.j) o)/\w'.heap[B]? = w.heap[B]?)
  {x:V} {v:Value} (h:bJ nm w L γ k x v) (hkk:(∃r c,k = .b r c)->∃r c,k' = .b r c:=by first | exactλh=>h | exactλ_=>⟨_,_,rfl⟩ | (rintro⟨r,c,h⟩;cases h;done)):bJ nm w' L' γ' k' x v:=by
 induction h with
 | one h=>exact .one (h.step hs (λB q o h1 h2 hL=>by have:=kD B q o h1 hL;simp_all) hkk)
 | agg hl h=>exact .agg hl (λj c u hc hu=>(h j c u hc hu).step hs (λB q o h1 h2 hL=>by have:=kD B q o h1 hL;simp_all) hkk)
 | ao hl aU h ih=>exact .ao hl aU ih
def aC.any {nm:FuncId->Option Nat} {w:World} {L:aw} {γ:Key->Nat} {k:Key} {j:Nat} {c:C} {v:Value} (h:aC nm w L γ k j c v)
  (hc:c.clean=true) (k':Key) (j':Nat):aC nm w L γ k' j' c v:=by
 induction h with
 | @d x v h=>
  cases h with
  | plain h=>exact .d (.plain h)
  | jg=>simp[C.clean] at hc
  | own=>simp[C.clean] at hc
 | ptr hv hg h=>exact .ptr hv hg h
 | eB hv hh hg h=>exact .eB hv hh hg h
 | pp hL hB h=>exact .pp hL hB h
 | view hv hh hg h=>exact .view hv hh hg h
 | cY=>simp[C.clean] at hc
 | fn j8 hf h1 h2 aU h3 h4 ta td=>
  exact .fn j8 hf h1 h2 aU (λi x u hx hu=>ta i x u hx hu (jG aU.1 hx)) (λi x u hx hu=>td i x u hx hu (jG aU.2 hx))
 | fns val hf hL hB aU hv h ih=>exact .fns val hf hL hB aU hv (λi x hx=>ih i x hx (jG aU hx))
 | c7=>exact .c7
 | eY=>exact .eY
 | fQ=>exact .fQ
 | fk=>exact .fk
 | bz=>simp[C.clean] at hc
 | mp=>simp[C.clean] at hc
 | gq hv hg h=>exact .gq hv hg h
 | dead=>exact .dead
def aC.uv {nm:FuncId->Option Nat} {w:World} {L:aw} {γ:Key->Nat} {k:Key} {j:Nat} {c:C} {v:Value} (h:aC nm w L γ k j c v)
  (hc:c.own=false):c.clean=true:=by
 cases h with
 | @d x v h=>
  cases x with
  | sl t sz rows=>cases t<;>simp_all[C.own,C.clean]
  | _=>rfl
 | cY=>simp[C.own] at hc
 | bz=>simp[C.own] at hc
 | mp=>simp[C.own] at hc
 | fn j8 hf h1 h2 aU h3 h4=>simp[C.clean,aU.1,aU.2]
 | fns val hf hL hB aU hv h=>simp[C.clean,aU,jZ]
 | _=>rfl
def bJ.any {nm:FuncId->Option Nat} {w:World} {L:aw} {γ:Key->Nat} {k:Key} {x:V} {v:Value} (h:bJ nm w L γ k x v)
  (hc:x.clean=true) (k':Key):bJ nm w L γ k' x v:=by
 induction h with
 | one h=>exact .one (h.any hc _ _)
 | agg hl h=>exact .agg hl (λj c u h1 h2=>(h j c u h1 h2).any (jG hc h1) _ _)
 | ao hl aU h ih=>exact .ao hl aU (λi x u h1 h2=>ih i x u h1 h2 (Jm aU h1))
def sv (w:World) (L:aw):Prop:=∀B l,L B=some l->B < w.heap.size
def xY {w w':World} {B:Nat} (h:B < w.heap.size) (he:w'.heap[B]? = w.heap[B]?):B < w'.heap.size:=by
 rw[oZ h] at he;exact(lH.1 he).1
def mR (L:aw):Prop:=∀B B' pl o o',L B=some (.row pl o)->L B'=some (.row pl o')->B=B'
def EV (L:aw):Prop:=∀B B' r o o',L B=some (.box r o)->L B'=some (.box r o')->B=B'
def lK (x:C) (B o c:Nat) (e:TypeId) (n:Nat) (v:Value):Prop:=
 match x with
 | .bz t=>o=0/\c=0/\e=t/\n=2/\(v = .pointer none\/v = .pointer (some ⟨B,0,none⟩))
 | _=>True
def lK.of {x:C} (h:∀t,x≠.bz t) {B o c:Nat} {e:TypeId} {n:Nat} {v:Value}:lK x B o c e n v:=by
 cases x<;>first | trivial | simp_all
def EX (nm:FuncId->Option Nat) (w:World) (L:aw) (γ:Key->Nat) (r:aJ) (c:Nat) (x:C):Prop:=
 match r with
 | .g _=>∃v,aC nm w L γ (.b r c) 0 x v
 | _=>∃B o cur e fz v,L B=some (.box r o)/\w.heap[B]? = some (.cells cur e fz)/\jA cur.size fz/\cur[o+c]? = some v/\aC nm w L γ (.b r c) 0 x v/\lK x B o c e cur.size v
structure af9 (nm:FuncId->Option Nat) (N:Nat) (E:Key->V) (γ:Key->Nat) (a:Act) (w:World) (L:aw):Prop where
 size:a.tmps.size=N
 defers:a.defers=[]
 slot:∀i,bJ nm w L γ (.s i) (E (.s i)) (a.tmps.getD i undef)
 cell:∀r c x,E (.b r c) = .one x->x≠.dead->EX nm w L γ r c x
 kx:∀r c,∃y,E (.b r c) = .one y
 bound:∀r c,cr (E (.r r))<=c->E (.b r c) = .one .dead
 room:∀r,r.iT=false->0 < cr (E (.r r))->∃B o cur e fz,L B=some (.box r o)/\w.heap[B]? = some (.cells cur e fz)/\jA cur.size fz/\o+cr (E (.r r))<=cur.size
 fx:sv w L
 ey:mR L
 fy:EV L
def St.E (S:St) (k:Key):V:=(S.get k).v
def St.γ (S:St) (k:Key):Nat:=(S.get k).g
def Rel (nm:FuncId->Option Nat) (N:Nat) (S:St) (a:Act) (w:World) (L:aw):Prop:=af9 nm N S.E S.γ a w L
structure dc (w w':World) (L L':aw):Prop where
 os:w'.os=w.os
 tape:w'.tape=w.tape
 output:w'.output=w.output
 size:w.heap.size<=w'.heap.size
 bg:sx w w' L L'
 none:∀B,B < w.heap.size->L B=none->L' B=none/\w'.heap[B]? = w.heap[B]?
 Cg:∀B i o,L B=some (.box (.e i) o)->L' B=some (.box (.e i) o)
def dc.refl (w:World) (L:aw):dc w w L L:=⟨rfl,rfl,rfl,cp _,λ_ h=>⟨h,rfl⟩,λ_ _ h=>⟨h,rfl⟩,λ_ _ _ h=>h⟩
def dc.trans {w1 w2 w3:World} {L1 L2 L3:aw} (h:dc w1 w2 L1 L2) (k:dc w2 w3 L2 L3):dc w1 w3 L1 L3:=
 ⟨k.os.trans h.os, k.tape.trans h.tape, k.output.trans h.output, iD h.size k.size,
   λB hB => ⟨(k.bg B (h.bg B hB).1).1, (k.bg B (h.bg B hB).1).2.trans (h.bg B hB).2⟩,
   λB af hB => ⟨(k.none B (IC af h.size) (h.none B af hB).1).1, (k.none B (IC af h.size) (h.none B af hB).1).2.trans (h.none B af hB).2⟩, λB i o hB => k.Cg B i o (h.Cg B i o hB)⟩
def St.CD (S:St) (x:Wr) (k:Key):(S.wr x).get k=if x.k=k then⟨x.v,if x.keep then(S.get x.k).g else(S.get x.k).g+1⟩ else S.get k:=by
 unfold St.wr;rw[St.akD]
def St.il (S:St) (x:Wr) (k:Key):(S.wr x).E k=if x.k=k then x.v else S.E k:=by
 unfold St.E;rw[St.CD];split<;>rfl
def St.jX (S:St) (x:Wr) (k:Key):(S.wr x).γ k=if x.k=k then(if x.keep then S.γ k else S.γ k+1) else S.γ k:=by
 unfold St.γ;rw[St.CD];by_cases h:x.k=k
 ·simp_all
 ·simp[h]
def Ww (nm:FuncId->Option Nat) (E:Key->V) (γ:Key->Nat) (a:Act) (w:World) (L:aw) (k:Key) (v:V):Prop:=
 match k with
 | .s i=>bJ nm w L γ (.s i) v (a.tmps.getD i undef)
 | .b r c=>∃y,v = .one y/\(y≠.dead->c < cr (E (.r r))/\EX nm w L γ r c y)
 | .r _=>False
 | _=>True
def aC.Hs {nm:FuncId->Option Nat} {w:World} {L:aw} {γ:Key->Nat} {m j:Nat} {x:C} {v:Value} (h:aC nm w L γ (.h m) j x v):∀t,x≠.bz t:=by
 rintro t rfl;cases h with
 | bz hk=>simp_all
def EX.step {nm:FuncId->Option Nat} {w w':World} {L L':aw} {γ γ':Key->Nat} (hs:Step w w' L L' γ γ') {r:aJ} {c:Nat} {x:C}
  (kD:∀B q o,q.k = .b r c->L B=some (.row q o)->L' B=some (.row q o)/\w'.heap[B]? = w.heap[B]?)
  (ia : ∀ B o, L B = some (.box r o) -> L' B = some (.box r o) /\
    ∀ cur e fz, w.heap[B]? = some (.cells cur e fz) -> ∃ ei : Array Value, w'.heap[B]? = some (.cells ei e fz) /\ ei.size = cur.size /\ ei[o + c]? = cur[o + c]?)
  (h:EX nm w L γ r c x):EX nm w' L' γ' r c x:=by
 have hc:∀v,aC nm w L γ (.b r c) 0 x v->aC nm w' L' γ' (.b r c) 0 x v:=λv hv=>
  hv.step hs (λB q o h1 h2 hL => by
    have := kD B q o h1 hL
    have hq : q.at (.b r c) 0 = q := by cases q; subst h1; subst h2; rfl
    simp_all)
 cases r with
 | g i=>obtain⟨v,hv⟩:=h;exact⟨v,hc v hv⟩
 | e i=>
  obtain⟨B,o,cur,e,fz,v,h1,h2,h3,h4,h5,h6⟩:=h;obtain⟨g1,g2⟩:=ia B o h1;obtain⟨ei,g3,g4,g5⟩:=g2 _ _ _ h2;exact⟨B,o,ei,e,fz,v,g1,g3,by simp_all,g5.trans h4,hc v h5,by simp_all⟩
 | l i=>
  obtain⟨B,o,cur,e,fz,v,h1,h2,h3,h4,h5,h6⟩:=h;obtain⟨g1,g2⟩:=ia B o h1;obtain⟨ei,g3,g4,g5⟩:=g2 _ _ _ h2;exact⟨B,o,ei,e,fz,v,g1,g3,by simp_all,g5.trans h4,hc v h5,by simp_all⟩
def Place.mf (q:Place):q.at q.k q.j=q:=by rfl
def Rel.write {nm:FuncId->Option Nat} {N:Nat} {S:St} {a a':Act} {w w':World} {L L':aw} (h:Rel nm N S a w L) (x:Wr)
  (aY:a'.tmps.size=a.tmps.size) (hdf:a'.defers=[])
  (wo:∀i,x.k≠.s i->a'.tmps.getD i undef=a.tmps.getD i undef)
  (hs:Step w w' L L' S.γ (S.wr x).γ)
  (kD:∀B q o,q.k≠x.k->q.k.aT=true->L B=some (.row q o)->L' B=some (.row q o)/\w'.heap[B]? = w.heap[B]?)
  (ia : ∀ B r o, x.k ≠ .r r -> L B = some (.box r o) -> L' B = some (.box r o) /\
    ∀ cur e fz, w.heap[B]? = some (.cells cur e fz) -> ∃ ei : Array Value, w'.heap[B]? = some (.cells ei e fz) /\ ei.size = cur.size /\ ∀ c, x.k ≠ .b r c -> ei[o + c]? = cur[o + c]?)
  (hx:Ww nm S.E (S.wr x).γ a' w' L' x.k x.v)
  (hd:sv w' L') (oC:mR L') (ql:EV L'):Rel nm N (S.wr x) a' w' L':=by
 refine⟨aY.trans h.size,hdf,?_,?_,?_,?_,?_,hd,oC,ql⟩
 ·intro i;rw[St.il];by_cases hk:x.k = .s i
  ·simp only[hk,dj];rw[hk] at hx;exact hx
  ·simp only[hk,eX];rw[wo i hk];refine(h.slot i).step hs ?_;intro B q o hq hL;have:=kD B q o (by rw[hq];exactλe=>hk e.symm) (by rw[hq];rfl) hL;rwa[<-hq,Place.mf]
 ·intro r c y hy jK;have Ao:x.k≠.r r:=by intro e;rw[e] at hx;exact hx
  rw[St.il] at hy;by_cases hk:x.k = .b r c
  ·simp only[hk,dj] at hy;rw[hk] at hx;obtain⟨y',h1,h2⟩:=hx;simp_all
  ·simp only[hk,eX] at hy;refine(h.cell r c y hy jK).step hs ?_ ?_
   ·intro B q o hq hL;exact kD B q o (by rw[hq];exactλe=>hk e.symm) (by rw[hq];rfl) hL
   ·intro B o hL;obtain⟨h1,h2⟩:=ia B r o Ao hL;refine⟨h1,λcur e fz hB=>?_⟩;obtain⟨ei,h3,h4,h5⟩:=h2 cur e fz hB;simp_all
 ·intro r c;rw[St.il];by_cases hk:x.k = .b r c
  ·simp only[hk,dj];rw[hk] at hx;obtain⟨y,h1,_⟩:=hx;simp_all
  ·simp only[hk,eX];exact h.kx r c
 ·intro r c hc;have Ao:x.k≠.r r:=by intro e;rw[e] at hx;exact hx
  rw[St.il] at hc ⊢;simp only[Ao,eX] at hc;by_cases hk:x.k = .b r c
  ·simp only[hk,dj];rw[hk] at hx;obtain⟨y,h1,h2⟩:=hx;by_cases jK:y = .dead
   ·simp_all
   ·have:=(h2 jK).1;omega
  ·simp only[hk,eX];exact h.bound r c hc
 ·intro r hg hr;have Ao:x.k≠.r r:=by intro e;rw[e] at hx;exact hx
  rw[St.il] at hr ⊢;simp only[Ao,eX] at hr ⊢;obtain⟨B,o,cur,e,fz,h1,h2,h3,h4⟩:=h.room r hg hr;obtain⟨g1,g2⟩:=ia B r o Ao h1;obtain⟨ei,g3,g4,_⟩:=g2 _ _ _ h2;exact⟨B,o,ei,e,fz,g1,g3,by simp_all,by omega⟩
end
section
def CA (S:St):∀(ws:List Wr) (k:Key),(S.ai ws).E k=(qj ws k).getD (S.E k)
 | [],k=>rfl
 | x::t,k=>by
  simp only[St.ai,St.il,qj];by_cases h:x.k=k
  ·simp[h]
  ·simp only[h,eX];exact CA S t k
def vI (S:St) (ws:List Wr) (k:Key):(sF ws k).run S=some ⟨(S.ai ws).E k,S.γ k⟩:=by
 rw[CA];unfold sF;cases qj ws k<;>rfl
def St.xq (S:St):∀(ws:List Wr) (k:Key),S.γ k<=(S.ai ws).γ k
 | [],_=>cp _
 | x::t,k=>by
  simp only[St.ai,St.jX];have:=xq S t k;by_cases h:x.k=k
  ·subst h;simp;split<;>omega
  simp_all
def Step.same (w:World) (L:aw) {γ γ':Key->Nat} (h:∀k,γ k<=γ' k):Step w w L L γ γ':=
 ⟨λ_ h=>⟨h,rfl⟩,h,λ_ _ _ _ _ h=>⟨h,λcur e fz hB=>⟨cur,hB,rfl⟩⟩,λ_ _ _ _ _ _ _=>rfl,λ_ _ _ _ h=>h⟩
def St.qa (S:St) (x:Wr) (k:Key):S.γ k<=(S.wr x).γ k:=by
 rw[St.jX];split<;>(try split)<;>omega
def bump (S:St) (k:Key) (k':Key):Nat:=if k=k' then S.γ k'+1 else S.γ k'
def ET (S:St) (k:Key) (v:V):(S.wr { k,v }).γ=bump S k:=by
 funext k';rw[St.jX];unfold bump;simp_all
section
variable {nm:FuncId->Option Nat} {N:Nat} {S:St} {a:Act} {w:World} {L:aw}
def Rel.Iz (h:Rel nm N S a w L) (x:Wr) (L':aw) (hk:x.keep=false)
  (fU:∀B,L B=some .bg->L' B=some .bg)
  (kD:∀B q o,q.k≠x.k->q.k.aT=true->L B=some (.row q o)->L' B=some (.row q o))
  (ia:∀B r o,L B=some (.box r o)->L' B=some (.box r o))
  (hx:Ww nm S.E (S.wr x).γ a w L' x.k x.v)
  (hd:∀B l,L' B=some l->∃l0,L B=some l0) (oC:mR L') (ql:∀B r o,L' B=some (.box r o)->L B=some (.box r o)) :
  Rel nm N (S.wr x) a w L':=by
 refine h.write x rfl h.defers (λ_ _=>rfl) ?_ (λB q o h1 h2 h3=>⟨kD B q o h1 h2 h3,rfl⟩) (λB r o _ hL=>⟨ia B r o hL,λcur e fz hB=>⟨cur,hB,rfl,λ_ _=>rfl⟩⟩) hx ?_ oC ?_
 ·refine⟨λB hB=>⟨fU B hB,rfl⟩,S.qa x,?_,λ_ _ _ _ _ _ _=>rfl,λB r o _ hB=>ia B r o hB⟩;intro B q o hq hγ hL;have:q.k≠x.k:=by
   intro e;rw[St.jX,e] at hγ;simp_all
  exact⟨kD B q o this hq hL,λcur e fz hB=>⟨cur,hB,rfl⟩⟩
 ·intro B l hB;obtain⟨l0,h0⟩:=hd B l hB;exact h.fx B l0 h0
 ·intro B B' r o o' h1 h2;exact h.fy B B' r o o' (ql B r o h1) (ql B' r o' h2)
def Rel.kill (h:Rel nm N S a w L) (k:Key) (hk:∀r,k≠.r r):Rel nm N (S.wr { k,v:=V.dead }) a w L:=by
 refine h.Iz { k,v:=V.dead } L rfl (λ_ h=>h) (λ_ _ _ _ _ h=>h) (λ_ _ _ h=>h) ?_ (λB l h=>⟨l,h⟩) h.ey (λ_ _ _ h=>h);cases k with
 | s i=>exact .one .dead
 | b r c=>exact⟨.dead,rfl,λjK=>absurd rfl jK⟩
 | r r=>simp_all
 | h i=>trivial
 | a k=>trivial
def cT (f:Place->Option Place) (L:aw):aw:=λB=>
 match L B with
 | some (.row q o)=>(f q).map λq'=>.row q' o
 | x=>x
def oR {f:Place->Option Place} {B o:Nat} {q:Place} (h:cT f L B=some (.row q o)):∃q0,L B=some (.row q0 o)/\f q0=some q:=by
 unfold cT at h;split at h
 ·rename_i q0 o0 hL;cases hf:f q0 with
  | none=>simp_all
  | some q1=>simp_all
 simp_all
def gO {f:Place->Option Place} {B o:Nat} {q q':Place} (h:L B=some (.row q o)) (hf:f q=some q'):cT f L B=some (.row q' o):=by
 simp[cT,h,hf]
def jP {f:Place->Option Place} {B:Nat}:cT f L B=some .bg↔L B=some .bg:=by
 unfold cT;split
 ·simp_all
 ·rfl
def jw {f:Place->Option Place} {B o:Nat} {r:aJ}:cT f L B=some (.box r o)↔L B=some (.box r o):=by
 unfold cT;split
 ·simp_all
 ·rfl
def HU {f:Place->Option Place} {B:Nat} {l:db} (h:cT f L B=some l):∃l0,L B=some l0:=by
 unfold cT at h;split at h
 ·simp_all
 simp_all
def HV {f:Place->Option Place} (h:mR L) (hf:∀q q' t B B' o o',f q=some t->f q'=some t->L B=some (.row q o)->L B'=some (.row q' o')->q=q'):mR (cT f L):=by
 intro B B' pl o o' h1 h2;obtain⟨q,g1,g2⟩:=oR h1;obtain⟨q',g3,g4⟩:=oR h2;obtain rfl:=hf q q' pl B B' o o' g2 g4 g1 g3;exact h B B' q o o' g1 g3
def eA (L:aw):Prop:=∀B q o,L B=some (.row q o)->q.k.aT=true
def sw (L:aw) (m:Nat):Prop:=∀B q o,L B=some (.row q o)->q.k≠.h m
def Rel.take (h:Rel nm N S a w L) (i m:Nat) (hm:sw L m) :
  ∃L',Rel nm N (S.wr { k:=.s i,v:=V.dead }) a w L'/\bJ nm w L' (S.wr { k:=.s i,v:=V.dead }).γ (.h m) (S.E (.s i)) (a.tmps.getD i undef)/\
   (∀B,L B=some .bg↔L' B=some .bg)/\(∀B q o,q.k≠.s i->q.k≠.h m->(L B=some (.row q o)↔L' B=some (.row q o)))/\(∀B,L' B=none↔L B=none)/\
   (∀B r o,L B=some (.box r o)↔L' B=some (.box r o))/\(∀B q o,L' B=some (.row q o)->q.k≠.s i):=by
 let f:Place->Option Place:=λq=>if q.k = .s i then some (q.at (.h m) q.j) else some q
 have Rh:∀q,∃t,f q=some t:=λq=>by by_cases hq:q.k = .s i<;>simp[f,hq]
 have rn:=by
  refine h.Iz { k:=.s i,v:=V.dead } (cT f L) rfl (λB hB=>jP.2 hB) ?_ (λB r o hB=>jw.2 hB) (.one .dead) (λB l hB=>HU hB) ?_ (λB r o hB=>jw.1 hB)
  ·intro B q o hq _ hL;exact gO hL (by simp only[f];simp_all)
  ·refine HV h.ey ?_;intro q q' t B B' o o' h1 h2 hB dH;simp only[f] at h1 h2;by_cases hq:q.k = .s i
   ·rw[aP hq] at h1;by_cases C7:q'.k = .s i
    ·rw[<-h2] at h1;simp only[au,Place.at,Place.mk.injEq,nD] at h1;cases q;cases q';simp_all
    ·rw[aI C7] at h2;rw[<-h1] at h2;simp at h2;exact absurd (by rw[h2];rfl) (hm B' q' o' dH)
   ·rw[aI hq] at h1;by_cases C7:q'.k = .s i
    ·rw[aP C7] at h2;rw[<-h2] at h1;simp at h1;exact absurd (by rw[h1];rfl) (hm B q o hB)
    simp_all
 refine⟨cT f L,rn,?_,λB=>jP.symm,?_,?_,λB r o=>jw.symm,?_⟩
 ·refine(h.slot i).step ?_ ?_
  ·refine⟨λB hB=>⟨jP.2 hB,rfl⟩,S.qa _,?_,λ_ _ _ _ _ _ _=>rfl,λB r o _ hB=>jw.2 hB⟩;intro B q o hq hγ hL;have aD:q.k≠.s i:=by intro e;rw[St.jX,e] at hγ;simp at hγ
   exact⟨gO hL (by simp only[f];simp_all),λcur e fz hB=>⟨cur,hB,rfl⟩⟩
  ·intro B q o hq hL;exact⟨gO hL (by simp only[f];simp_all),rfl⟩
 ·intro B q o h1 h2;constructor
  ·intro hL;exact gO hL (by simp only[f];simp_all)
  ·intro hL;obtain⟨q0,h3,h4⟩:=oR hL;simp only[f] at h4;by_cases hq:q0.k = .s i
   ·rw[aP hq] at h4;simp at h4;exact absurd (by rw[<-h4];rfl) h2
   simp_all
 ·intro B;unfold cT;split
  ·rename_i q0 o0 hL;obtain⟨t,ht⟩:=Rh q0;simp_all
  ·rfl
 ·intro B q o hL;obtain⟨q0,h3,h4⟩:=oR hL;simp only[f] at h4;by_cases hq:q0.k = .s i
  ·rw[aP hq] at h4;simp at h4;rw[<-h4];simp[Place.at]
  simp_all
def Rel.aer (h:Rel nm N S a w L) {i m:Nat} {x:V} {v:Value} (hi:i < N) (hv:bJ nm w L S.γ (.h m) x v) :
  ∃L',Rel nm N (S.wr { k:=.s i,v:=x }) (a.put (some i) v) w L'/\eA L'/\dc w w L L'/\
   (∀B q o,q.k≠.s i->q.k.aT=true->L B=some (.row q o)->L' B=some (.row q o)):=by
 let f:Place->Option Place:=λq=>if q.k = .s i then none else if q.k = .h m then some (q.at (.s i) q.j) else if q.k.aT=false then none else some q
 have dr:∀B q o,q.k≠.s i->q.k.aT=true->L B=some (.row q o)->cT f L B=some (.row q o):=by
  intro B q o h1 h2 hL;have h3:q.k≠.h m:=λe=>by rw[e] at h2;simp[Key.aT] at h2
  exact gO hL (by simp only[f];simp_all)
 have bF:Step w w L (cT f L) S.γ (S.wr { k:=.s i,v:=x }).γ:=by
  refine⟨λB hB=>⟨jP.2 hB,rfl⟩,S.qa _,?_,λ_ _ _ _ _ _ _=>rfl,λB r o _ hB=>jw.2 hB⟩;intro B q o hq hγ hL;have aD:q.k≠.s i:=by intro e;rw[St.jX,e] at hγ;simp at hγ
  exact⟨dr B q o aD hq hL,λcur e fz hB=>⟨cur,hB,rfl⟩⟩
 have aaj:(a.put (some i) v).tmps=a.tmps.setIfInBounds i v:=rfl;refine⟨cT f L,?_,?_,?_,dr⟩
 ·refine h.write { k:=.s i,v:=x } (by simp[aaj]) h.defers ?_ bF (λB q o h1 h2 h3=>⟨dr B q o h1 h2 h3,rfl⟩) (λB r o _ hL=>⟨jw.2 hL,λcur e fz hB=>⟨cur,hB,rfl,λ_ _=>rfl⟩⟩) ?_ ?_ ?_ ?_
  ·simp_all
  ·show bJ nm w (cT f L) _ (.s i) x ((a.put (some i) v).tmps.getD i undef);have hg:(a.put (some i) v).tmps.getD i undef=v:=by
    rw[aaj];have:i < a.tmps.size:=by rw[h.size];exact hi
    simp_all
   rw[hg];refine hv.step bF ?_;intro B q o hq hL;exact⟨gO hL (by simp only[f];simp_all),rfl⟩
  ·intro B l hB;obtain⟨l0,h0⟩:=HU hB;exact h.fx B l0 h0
  ·refine HV h.ey ?_;intro q q' t B B' o o' h1 h2 _ _;simp only[f] at h1 h2;by_cases hq:q.k = .s i
   ·simp_all
   by_cases C7:q'.k = .s i
   ·simp_all
   rw[aI hq] at h1;rw[aI C7] at h2;by_cases CZ:q.k = .h m
   ·rw[aP CZ] at h1;by_cases Gh:q'.k = .h m
    ·rw[<-h2] at h1;simp only[au,Place.at,Place.mk.injEq,nD] at h1;cases q;cases q';simp_all
    ·rw[aI Gh] at h2;split at h2
     ·simp at h2
     ·rw[<-h1] at h2;simp at h2;exact absurd (by rw[h2];rfl) C7
   ·rw[aI CZ] at h1;split at h1
    ·simp at h1
    ·by_cases Gh:q'.k = .h m
     ·rw[aP Gh] at h2;rw[<-h2] at h1;simp at h1;exact absurd (by rw[h1];rfl) hq
     simp_all
  ·intro B B' r o o' h1 h2;exact h.fy B B' r o o' (jw.1 h1) (jw.1 h2)
 ·intro B q o hB;obtain⟨q0,h1,h2⟩:=oR hB;simp only[f] at h2;split at h2
  ·simp at h2
  ·split at h2
   ·simp at h2;rw[<-h2];rfl
   ·split at h2
    ·simp at h2
    simp_all
 ·refine⟨rfl,rfl,rfl,cp _,λB hB=>⟨jP.2 hB,rfl⟩,?_,λB i o hB=>jw.2 hB⟩;intro B _ hB;exact⟨by simp[cT,hB],rfl⟩
def bJ.setCell {w':World} {L':aw} {γ γ':Key->Nat} {k:Key} {x:V} {v:Value} {j:Nat} {c c':C} (h:bJ nm w L γ k x v) (hc:x.cells[j]? = some c)
  (hs:Step w w' L L' γ γ')
  (kD:∀B q o,q.k=k->q.j≠j->L B=some (.row q o)->L' B=some (.row q o)/\w'.heap[B]? = w.heap[B]?)
  (hj:∀u,aC nm w L γ k j c u->aC nm w' L' γ' k j c' u):bJ nm w' L' γ' k (x.setCell j c') v:=by
 cases h with
 | @one c0 _ h=>
  simp only[V.cells] at hc;cases j with
  | zero=>
   simp at hc;subst hc;exact .one (hj _ h)
  | succ j=>simp at hc
 | @agg cs vs hl h=>
  simp only[V.cells] at hc;refine .agg (by simp_all) ?_;intro j' c1 u h1 h2;rw[VX] at h1;by_cases Z2:j=j'
  ·subst Z2;simp only[dj] at h1;split at h1
   ·simp at h1;simp_all
   simp_all
  ·simp only[Z2,eX] at h1;refine(h j' c1 u h1 h2).step hs ?_;intro B q o wi RH hL;have:=kD B q o wi (by omega) hL;rwa[<-wi,<-RH,Place.mf]
 | ao=>simp[V.cells] at hc
open Classical in
noncomputable def hC (t:Place) (L:aw):aw:=λB=>
 match L B with
 | some (.row q o)=>if bM t q then some .bg else some (.row q o)
 | x=>x
def pC {t:Place} {B:Nat} (h:L B=some .bg):hC t L B=some .bg:=by simp[hC,h]
def xQ {t:Place} {B o:Nat} {r:aJ}:hC t L B=some (.box r o)↔L B=some (.box r o):=by
 unfold hC;split
 ·rename_i q0 o0 hL;rw[hL];split<;>simp
 ·rfl
def sO {t q:Place} {B o:Nat} (h:L B=some (.row q o)) (hn:¬ bM t q):hC t L B=some (.row q o):=by simp[hC,h,hn]
def xR {t q:Place} {B o:Nat} (h:L B=some (.row q o)) (hn:bM t q):hC t L B=some .bg:=by simp[hC,h,hn]
def Cw {t q:Place} {B o:Nat} (h:hC t L B=some (.row q o)):L B=some (.row q o)/\¬ bM t q:=by
 unfold hC at h;split at h
 ·rename_i q0 o0 hL;split at h
  ·simp at h
  simp_all
 simp_all
def Zk {t:Place} {B:Nat} {l:db} (h:hC t L B=some l):∃l0,L B=some l0:=by
 unfold hC at h;split at h
 ·simp_all
 simp_all
def aks {t:Place} {B:Nat}:hC t L B=none↔L B=none:=by
 unfold hC;split
 ·rename_i q0 o0 hL;rw[hL];split<;>simp
 ·rfl
def Zl {t:Place} (h:mR L):mR (hC t L):=λB B' pl o o' h1 h2=>h B B' pl o o' (Cw h1).1 (Cw h2).1
def Zm (t:Place):dc w w L (hC t L):=
 ⟨rfl,rfl,rfl,cp _,λB hB=>⟨pC hB,rfl⟩,λB _ hB=>⟨aks.2 hB,rfl⟩,λB i o hB=>xQ.2 hB⟩
def bM.key {t q:Place} (h:bM t q):q.k=t.k/\q.j=t.j:=by obtain⟨r,rfl⟩:=h;exact⟨rfl,rfl⟩
def O5 (S:St) (k k':Key):S.γ k'<=bump S k k':=by unfold bump;split<;>omega
def Fb {S:St} {k k':Key} (h:bump S k k'=S.γ k'):k'≠k:=by
 intro e;subst e;simp[bump] at h
def Rel.ad8 (h:Rel nm N S a w L) {k:Key} {j:Nat} {c c':C} {L':aw}
  (hk:(∃i,k = .s i)\/∃r c,k = .b r c) (hE:(S.E k).cells[j]? = some c) (J1:c≠.dead)
  (fU:∀B,L B=some .bg->L' B=some .bg)
  (kD:∀B q o,q.k≠k->q.k.aT=true->L B=some (.row q o)->L' B=some (.row q o))
  (alq:∀B q o,q.k=k->q.j≠j->L B=some (.row q o)->L' B=some (.row q o))
  (ia:∀B r o,L' B=some (.box r o)↔L B=some (.box r o))
  (hd:∀B l,L' B=some l->∃l0,L B=some l0) (oC:mR L')
  (gn:∀u,aC nm w L S.γ k j c u->aC nm w L' (bump S k) k j c' u) (Q0:∀t,c'≠.bz t:=by intro t h;cases h) :
  Rel nm N (S.wr { k,v:=(S.E k).setCell j c' }) a w L':=by
 have bF:Step w w L L' S.γ (bump S k):=by
  refine⟨λB hB=>⟨fU B hB,rfl⟩,O5 S k,?_,λ_ _ _ _ _ _ _=>rfl,λB r o _ hB=>(ia B r o).2 hB⟩;intro B q o hq hγ hL;exact⟨kD B q o (Fb hγ) hq hL,λcur e fz hB=>⟨cur,hB,rfl⟩⟩
 refine h.Iz _ _ rfl fU (λB q o h1 h2 h3=>kD B q o h1 h2 h3) (λB r o hB=>(ia B r o).2 hB) ?_ hd oC (λB r o hB=>(ia B r o).1 hB);rw[ET];rcases hk with⟨i,rfl⟩ | ⟨r,cc,rfl⟩
 ·exact(h.slot i).setCell hE bF (λB q o h1 h2 hL=>⟨alq B q o h1 h2 hL,rfl⟩) gn
 ·obtain⟨c0,xT⟩:=h.kx r cc;rw[xT] at hE;simp only[V.cells] at hE;cases j with
  | succ j=>simp at hE
  | zero=>
   simp at hE;subst hE;have af:cc < cr (S.E (.r r)):=by
    refine Nat.lt_of_not_le λhle=>J1 ?_
    have:=h.bound r cc hle;simp_all
   refine⟨c',by simp[xT,V.setCell],λ_=>⟨af,?_⟩⟩;have hold:=h.cell r cc _ xT J1;cases r with
   | g i=>obtain⟨v,hv⟩:=hold;exact⟨v,gn v hv⟩
   | e i=>obtain⟨B,o,cur,e,fz,v,h1,h2,h3,h4,h5⟩:=hold;exact⟨B,o,cur,e,fz,v,(ia _ _ _).2 h1,h2,h3,h4,gn v h5.1,.of Q0⟩
   | l i=>obtain⟨B,o,cur,e,fz,v,h1,h2,h3,h4,h5⟩:=hold;exact⟨B,o,cur,e,fz,v,(ia _ _ _).2 h1,h2,h3,h4,gn v h5.1,.of Q0⟩
def Rel.akr (h:Rel nm N S a w L) {k:Key} {j:Nat} {p:List (Nat×Nat)} {x:D} {sz:Nat} {rows:List (List D)}
  (hk:(∃i,k = .s i)\/∃r c,k = .b r c) (hE:(S.E k).cells[j]? = some (.d x)) (hn:ek x p=some (.sl .own sz rows)) :
  Rel nm N (S.wr { k,v:=(S.E k).setCell j (.d (eo x p (.sl (.im false) sz (aK rows)))) }) a w (hC ⟨k,j,p⟩ L):=by
 refine h.ad8 hk hE (by simp) (λB hB=>pC hB) (λB q o hq _ hL=>sO hL (λhu=>hq hu.key.1)) (λB q o _ hq hL=>sO hL (λhu=>hq hu.key.2))
  (λB r o=>xQ) (λB l hB=>Zk hB) (Zl h.ey) ?_
 intro u hu;cases hu with
 | d hd=>
  refine .d ?_;have QN:(⟨k,j,[]⟩:Place).app p=⟨k,j,p⟩:=by simp[Place.app]
  refine bt.subst p hd hn (λB hB=>⟨pC hB,rfl⟩) ?_ ?_ rfl
  ·intro B' q o' _ h2 h3;exact sO h3 h2
  ·intro u' kb;refine .plain ?_;have:=bt.freeze (w':=w) (L':=hC ⟨k,j,p⟩ L) (bM ⟨k,j,p⟩) (λq i c h=>h.sub i c) (λB hB=>⟨pC hB,rfl⟩) (λB q o hq hL=>⟨xR hL hq,rfl⟩) kb (bM.refl _);simpa[lW] using this
def Rel.grow (h:Rel nm N S a w L) {w':World} {L':aw} (ej:∀B l,L B=some l->w'.heap[B]? = w.heap[B]?) (hL:∀B l,L B=some l->L' B=some l)
  (hd:sv w' L') (oC:mR L') (ql:EV L'):Rel nm N S a w' L':=by
 have bF:Step w w' L L' S.γ S.γ:=by
  refine⟨λB hB=>⟨hL B _ hB,ej B _ hB⟩,λ_=>cp _,?_,λB q o _ _ _ hB=>ej B _ hB,λB r o _ hB=>hL B _ hB⟩;simp_all
 refine⟨h.size,h.defers,?_,?_,h.kx,h.bound,λr hg hr=>let ⟨B,o,cur,e,fz,h1,h2,h3,h4⟩:=h.room r hg hr;⟨B,o,cur,e,fz,hL B _ h1,(ej B _ h1).trans h2,h3,h4⟩,hd,oC,ql⟩
 ·intro i;refine(h.slot i).step bF ?_;intro B q o hq hB;refine⟨?_,ej B _ hB⟩;rw[<-hq,Place.mf];simp_all
 ·intro r c x hx gp;exact(h.cell r c x hx gp).step bF (λB q o _ hB=>⟨hL B _ hB,ej B _ hB⟩) (λB o hB=>⟨hL B _ hB,λcur e fz hc=>⟨cur,(ej B _ hB).trans hc,rfl,rfl⟩⟩)
def Rel.drew (h:Rel nm N S a w L):Rel nm N S a w.drew L:=
 h.grow (λ_ _ _=>rfl) (λ_ _ h=>h) h.fx h.ey h.fy
def dc.drew (w:World) (L:aw):dc w w.drew L L:=⟨rfl,rfl,rfl,cp _,λ_ h=>⟨h,rfl⟩,λ_ _ h=>⟨h,rfl⟩,λ_ _ _ h=>h⟩
def aw.put (L:aw) (B:Nat) (l:db):aw:=λB'=>if B'=B then some l else L B'
def aw.kZ (L:aw) (B:Nat) (l:db):L.put B l B=some l:=by simp[aw.put]
def aw.gw {L:aw} {B B':Nat} {l:db} (h:B'≠B):L.put B l B'=L B':=by simp[aw.put,h]
def ox (w:World) (o:Obj):(w.alloc o).heap[w.heap.size]? = some o:=by
 show (w.heap.push o)[w.heap.size]? = _;simp
def mY (w:World) (o:Obj) {B:Nat} (h:B≠w.heap.size):(w.alloc o).heap[B]? = w.heap[B]?:=by
 show (w.heap.push o)[B]? = _;rw[VQ,aI (λe=>h e)]
def sv.new (h:sv w L):L w.heap.size=none:=by
 cases hl:L w.heap.size with
 | none=>rfl
 | some l=>exact absurd (h _ _ hl) (V8 _)
def dc.alloc (w:World) (L:aw) (hd:sv w L) (o:Obj) (l:db):dc w (w.alloc o) L (L.put w.heap.size l):=by
 refine⟨rfl,rfl,rfl,by simp,?_,?_,λB i o hB=>by rw[aw.gw (λe=>by rw[e,hd.new] at hB;cases hB)];exact hB⟩
 ·intro B hB;have:B≠w.heap.size:=λe=>by rw[e,hd.new] at hB;cases hB
  exact⟨by rw[aw.gw this];exact hB,mY w _ this⟩
 ·intro B af hB;have:B≠w.heap.size:=by omega
  exact⟨by rw[aw.gw this];exact hB,mY w _ this⟩
end
end
section
def abZ {S:St}:∀(p:List (Nat×Nat)) (x y:D),(yG x p).run S=some y->ek x p=some y
 | [],x,y,h=>by
  have:x=y:=by cases x<;>simpa[yG] using h
  subst this;cases x<;>rfl
 | (i,c)::p,x,y,h=>by
  cases x with
  | sl t sz rows=>
   cases t with
   | own=>
    simp only[yG,Q.run_bind,Q.Eo] at h;rw[ek];cases h1:rows[i]? with
    | none=>simp_all
    | some row=>
     simp only[h1,Option.bind_some] at h ⊢;cases h2:row[c]? with
     | none=>simp_all
     | some z=>
      simp only[h2,Option.bind_some] at h ⊢;cases h3:(Q.OO z).run S with
      | none=>simp_all
      | some z'=>
       simp only[h3,Option.bind_some] at h;obtain rfl:=Q.ark S h3;exact abZ p _ _ h
   | im b=>simp[yG] at h
  | _=>simp[yG] at h
def u4 {S:St} {ws:List Wr} {pl:Place} {g sz:Nat} {r:mO×D×List (List D)} (h:(jO ws pl g sz).run S=some r) :
  r.1=⟨(S.ai ws).E pl.k,S.γ pl.k⟩/\g=S.γ pl.k/\((S.ai ws).E pl.k).cells[pl.j]? = some (.d r.2.1)/\ek r.2.1 pl.p=some (.sl .own sz r.2.2):=by
 unfold jO at h;simp only[Q.run_bind,vI,Option.bind_some,Q.pW] at h;by_cases hg:(S.γ pl.k==g)=true
 ·simp only[hg,dj,Option.bind_some] at h;cases hc:((S.ai ws).E pl.k).cells[pl.j]? with
  | none=>simp_all
  | some c=>
   rw[hc] at h;cases c with
   | d x=>
    simp at h;cases oz:(yG x pl.p).run S with
    | none=>simp_all
    | some y=>
     have hn:=abZ _ _ _ oz;simp only[oz,Option.bind_some] at h;cases y with
     | sl t da rows=>
      cases t with
      | own=>
       simp only[Q.run_bind,Q.pW] at h;by_cases hs:(da==sz)=true
       ·simp only[hs,dj,Option.bind_some,Q.run_pure,au] at h;have oD:=by simpa using hs
        subst h;simp_all
       simp_all
      | im b=>simp at h
     | int=>simp at h
     | bool=>simp at h
     | str=>simp at h
     | dead=>simp at h
   | _=>simp at h
 simp_all
def Step.trans {w1 w2 w3:World} {L1 L2 L3:aw} {γ1 γ2 γ3:Key->Nat} (h:Step w1 w2 L1 L2 γ1 γ2) (k:Step w2 w3 L2 L3 γ2 γ3):Step w1 w3 L1 L3 γ1 γ3:=by
 have hle:∀x,γ3 x=γ1 x->γ2 x=γ1 x/\γ3 x=γ2 x:=λx e=>by
  have h1:=h.dP x;have h2:=k.dP x;omega
 refine⟨λB hB=>⟨(k.bg B (h.bg B hB).1).1,(k.bg B (h.bg B hB).1).2.trans (h.bg B hB).2⟩,λx=>iD (h.dP x) (k.dP x),?_,?_,?_⟩
 ·intro B q o hq he hB;obtain⟨e1,e2⟩:=hle _ he;obtain⟨g1,g2⟩:=h.view B q o hq e1 hB;obtain⟨g3,g4⟩:=k.view B q o hq e2 g1;refine⟨g3,λcur e fz hc=>?_⟩;obtain⟨ei,g5,g6⟩:=g2 cur e fz hc;obtain⟨ag9,g7,g8⟩:=g4 ei e fz g5;exact⟨ag9,g7,g8.trans g6⟩
 ·intro B q o hq he ha hB;obtain⟨e1,e2⟩:=hle _ he;obtain⟨e3,e4⟩:=hle _ ha;exact(k.app B q o hq e2 e4 (h.view B q o hq e1 hB).1).trans (h.app B q o hq e1 e3 hB)
 ·intro B r o he hB;obtain⟨e1,e2⟩:=hle _ he;exact k.box B r o e2 (h.box B r o e1 hB)
structure cf (nm:FuncId->Option Nat) (N:Nat) (S0:St) (w0:World) (L0:aw) (ws:List Wr) (a:Act) (w:World) (L:aw):Prop where
 rel:Rel nm N (S0.ai ws) a w L
 cU:Step w0 w L0 L S0.γ (S0.ai ws).γ
 mono:dc w0 w L0 L
 rows:∀B q o,q.k.aT=true->L B=some (.row q o)->L0 B=some (.row q o)
 heap:∀B l,L0 B=some l->w.heap[B]? = w0.heap[B]?
 wC:mR L0
 boxes:∀B r o,L0 B=some (.box r o)->L B=some (.box r o)
section
variable {nm:FuncId->Option Nat} {N:Nat} {S0:St} {w0:World} {L0:aw} {ws:List Wr} {a:Act} {w:World} {L:aw}
def cf.init {S:St} (h:Rel nm N S a w L):cf nm N S w L [] a w L:=
 ⟨h,Step.same w L (λ_=>cp _),dc.refl w L,λ_ _ _ _ h=>h,λ_ _ _=>rfl,h.ey,λ_ _ _ h=>h⟩
def cf.freeze (M:cf nm N S0 w0 L0 ws a w L) {k:Key} {j:Nat} {p:List (Nat×Nat)} {x:D} {sz:Nat} {rows:List (List D)}
  (hk:k.aT=true) (hE:((S0.ai ws).E k).cells[j]? = some (.d x)) (hn:ek x p=some (.sl .own sz rows)) :
  cf nm N S0 w0 L0 (nS ws k (((S0.ai ws).E k).setCell j (.d (eo x p (.sl (.im false) sz (aK rows)))))) a w (hC ⟨k,j,p⟩ L):=by
 have iH:(∃i,k = .s i)\/∃r c,k = .b r c:=by
  cases k with
  | s i=>simp_all
  | b r c=>simp_all
  | _=>simp[Key.aT] at hk
 have rn:=M.rel.akr iH hE hn;refine⟨rn,M.cU.trans ?_,M.mono.trans (Zm _),λB q o hq hB=>M.rows B q o hq (Cw hB).1,M.heap,M.wC,λB r o hB=>xQ.2 (M.boxes B r o hB)⟩;show Step w w L _ (S0.ai ws).γ ((S0.ai ws).wr { k,v:=_ }).γ;rw[ET];refine⟨λB hB=>⟨pC hB,rfl⟩,O5 _ k,?_,λ_ _ _ _ _ _ _=>rfl,λB r o _ hB=>xQ.2 hB⟩;intro B q o hq hγ hL;exact⟨sO hL (λhu=>Fb hγ hu.key.1),λcur e fz hB=>⟨cur,hB,rfl⟩⟩
def asB {t:Place} {sz off len:Nat} {rows:List (List D)} {u v:Value} {w0:World} {L0 L:aw} (ri:mR L0)
  (wj:∀B o,L B=some (.row t o)->L0 B=some (.row t o))
  (hd:bt w L t (.sl .own sz rows) u) (hv:BL w0 L0 t sz off len v) (hle:off+len<=rows.length) :
  fK w (hC t L) (.sl (.im false) sz (aK ((rows.drop off).take len))) v:=by
 by_cases hlen:len=0
 ·subst hlen;rcases hv with⟨_,a,rfl⟩ | ⟨B,o,cap,cur,e,fz,rfl,_⟩
  ·exact .mE
  ·exact .mE
 rcases hv with⟨h0,_⟩ | ⟨B,o,cap,ag',e0,Zo,rfl,aY,uB,_,_,atH,_⟩
 ·omega
 rcases hd.nR with⟨rfl,_⟩ | ⟨B',o',zH,cur,e,fz,val,rfl,_,hL,hB,c6,fO,eC,dU,cH,hr,dW⟩
 ·simp_all
 have fY:=wj B' o' hL;obtain rfl:=ri B' B t o' o fY uB;obtain rfl:o'=o:=by simp_all
 have hl:((rows.drop off).take len).length=len:=by simp;omega
 have gn:∀i c x,cellOf (aK ((rows.drop off).take len)) i c=some x->∃y,cellOf rows (off+i) c=some y/\x=lW y/\i < len:=by
  intro i c x hx;rw[B9] at hx;cases hy:cellOf ((rows.drop off).take len) i c with
  | none=>simp_all
  | some y=>
   simp only[hy,fJ,au] at hx;obtain⟨r,h1,h2⟩:=kM.1 hy;have jn:i < len:=by
    have:=(cd.1 h1).1;omega
   refine⟨y,kM.2 ⟨r,?_,h2⟩,hx.symm,jn⟩;rw[zm jn,vr] at h1;exact h1
 have di:(aK ((rows.drop off).take len)).length=len:=by rw[A3,hl]
 have:fK w (hC t L) (.sl (.im false) sz (aK ((rows.drop off).take len))) (.slice (some ⟨B',o'+off * sz,none⟩) (aK ((rows.drop off).take len)).length cap):=by
  refine .pl (cur:=cur) (e:=e) (fz:=fz) (λi c=>val (off+i) c) ?_ aY (by omega) (xR hL (bM.refl _)) hB ?_ ?_ ?_
  ·intro h;simp_all
  ·intro r eN;rw[D9] at eN;obtain⟨r1,h1,rfl⟩:=kJ.1 eN;simpa using fO r1 (N7 (EN h1))
  ·intro i c x hx;obtain⟨y,h1,_,_⟩:=gn i c x hx;have:=cH _ _ _ h1;rw[lJ] at this;rw[show o'+off * sz+i * sz+c=o'+(off * sz+i * sz)+c by omega];omega
  ·intro i c x hx;obtain⟨y,h1,rfl,_⟩:=gn i c x hx;exact bt.freeze (bM t) (λq i c h=>h.sub i c) (λB hB=>⟨pC hB,rfl⟩) (λB q o hq hL=>⟨xR hL hq,rfl⟩) (hr _ _ _ h1) ((bM.refl t).sub _ _)
 simp_all
def Rel.agU {S:St} (h:Rel nm N S a w L) {k:Key} {j:Nat} {x:D} (hk:k.aT=true)
  (hE:(S.E k).cells[j]? = some (.d x)):∃u,bt w L ⟨k,j,[]⟩ x u:=by
 cases k with
 | s i=>
  have:=h.slot i;cases hv:S.E (.s i) with
  | one c=>
   rw[hv] at this hE;cases this with
   | one hc=>
    cases j with
    | succ j=>simp[V.cells] at hE
    | zero=>
     simp only[V.cells,qQ,au] at hE;subst hE;cases hc with
     | d hd=>exact⟨_,hd⟩
  | agg cs=>
   rw[hv] at this hE;generalize a.tmps.getD i undef=v0 at this;cases this with
   | agg hl hc=>
    rename_i vs;have hj:j < vs.size:=by rw[<-hl];exact(cd.1 hE).1
    have:=hc j _ vs[j] hE (by simp[hj]);cases this with
    | d hd=>exact⟨_,hd⟩
  | ao vs=>simp[hv,V.cells] at hE
 | b r c=>
  obtain⟨c0,hv⟩:=h.kx r c;rw[hv] at hE;cases j with
  | succ j=>simp[V.cells] at hE
  | zero=>
   simp only[V.cells,qQ,au] at hE;subst hE;have gn:=h.cell r c _ hv (by simp);cases r with
   | g i=>obtain⟨v,hv⟩:=gn;cases hv with | d hd=>exact⟨_,hd⟩
   | e i=>obtain⟨B,o,cur,e,fz,v,_,_,_,_,hv,_⟩:=gn;cases hv with | d hd=>exact⟨_,hd⟩
   | l i=>obtain⟨B,o,cur,e,fz,v,_,_,_,_,hv,_⟩:=gn;cases hv with | d hd=>exact⟨_,hd⟩
 | r r=>simp[Key.aT] at hk
 | h i=>simp[Key.aT] at hk
 | a k=>simp[Key.aT] at hk
def bt.aeq {pl:Place} {sz:Nat} {rows:List (List D)} {v:Value} (h:bt w L pl (.sl .own sz rows) v):WC rows.length v:=by
 rcases h.nR with⟨rfl,a,rfl⟩ | ⟨B,o,cap,cur,e,fz,val,rfl,aY,hL,hB,c6,fO,eC,dU,cH,hr,dW⟩
 ·exact⟨_,_,rfl,cp _,rfl⟩
 ·exact⟨_,_,rfl,eC,rfl⟩
def aC.look {γ:Key->Nat} {k:Key} {j:Nat} {c:C} {v:Value} (hk:k.aT=true) (h:aC nm w L γ k j c v) (k':Key) (j':Nat) :
  aC nm w L γ k' j' (c.look k (γ k) j) v:=by
 by_cases xW:∃t,c = .bz t
 ·obtain⟨t,rfl⟩:=xW;exact .dead
 cases hc:c.own with
 | false=>
  have:c.look k (γ k) j=c:=by
   cases c with
   | d x=>
    cases x with
    | sl t sz rows=>cases t<;>simp_all[C.own,C.look]
    | _=>rfl
   | cY=>simp[C.own] at hc
   | bz t=>simp_all
   | mp=>simp[C.own] at hc
   | _=>rfl
  rw[this];exact h.any (h.uv hc) _ _
 | true=>
  cases h with
  | @d x v h=>
   cases x with
   | sl t sz rows=>
    cases t with
    | own=>
     refine .view h.aeq hk (cp _) (λ_=>?_);rcases h.nR with⟨rfl,a,rfl⟩ | ⟨B,o,cap,cur,e,fz,val,rfl,aY,hL,hB,c6,fO,eC,dU,cH,hr,dW⟩
     ·exact .inl ⟨rfl,a,rfl⟩
     ·exact .inr ⟨B,o,cap,cur,e,fz,by simp,aY,hL,hB,c6,eC,by omega,λ_ h0=>dW (.inr (p7.1 h0))⟩
    | im b=>simp[C.own] at hc
   | _=>simp[C.own] at hc
  | cY=>exact .dead
  | bz=>simp_all
  | mp=>exact .dead
  | _=>simp[C.own] at hc
def abB (k:Key) (g:Nat):∀(cs:List C) (j0 j:Nat),(uV k g j0 cs)[j]? = (cs[j]?).map λc=>c.look k g (j0+j)
 | [],_,_=>by simp[uV]
 | c::cs,j0,0=>by simp[uV]
 | c::cs,j0,j+1=>by
  simp only[uV,BA];rw[abB k g cs (j0+1) j];congr 1;funext c;congr 1;omega
def abC (k:Key) (g:Nat):∀(cs:List C) (j0:Nat),(uV k g j0 cs).length=cs.length
 | [],_=>rfl
 | c::cs,j0=>by simp[uV,abC k g cs]
def bJ.look {γ:Key->Nat} {k:Key} {x:V} {v:Value} (hk:k.aT=true) (h:bJ nm w L γ k x v) (k':Key):bJ nm w L γ k' (x.look k (γ k)) v:=by
 cases h with
 | one h=>exact .one (h.look hk _ _)
 | agg hl h=>
  refine .agg (by rw[abC];exact hl) ?_;intro j c u h1 h2;rw[abB] at h1;simp only[cQ] at h1;rename_i cs vs;cases hc:cs[j]? with
  | none=>simp_all
  | some c0=>
   simp only[hc,fJ,au] at h1;subst h1;exact(h j c0 u hc h2).look hk _ _
 | ao hl aU h=>exact .ao hl aU (λi x u h1 h2=>(h i x u h1 h2).any (Jm aU h1) _)
inductive bV (nm:FuncId->Option Nat):X->Operand->Prop where
 | s {i}:bV nm (.s i) (.tmp i)
 | t {i}:bV nm (.t i) (.tmp i)
 | c {x v} (h:∀(w:World) (L:aw) (γ:Key->Nat) (k:Key),bJ nm w L γ k x v):bV nm (.c x) (.const v)
 | f {n f} (h:nm f=some n) (ht:n < kN):bV nm (.f n) (.func f)
def ads {S:St} (h:Rel nm N S a w L) {x:X} {o:Operand} (ho:bV nm x o) {v:V} (hr:(rd x).run S=some v) (k:Key) :
  bJ nm w L S.γ k v (a.eval o):=by
 cases ho with
 | @s i=>
  simp only[rd,Q.run_bind,Q.w9,Option.bind_some,Q.run_pure,au] at hr;subst hr;exact(h.slot i).look rfl k
 | @t i=>
  simp only[rd,Q.run_bind,Q.w9,Option.bind_some,Q.run_pure,au] at hr;subst hr;exact(h.slot i).look rfl k
 | @c x v hc=>
  simp only[rd,Q.run_pure,au] at hr;subst hr;exact hc w L S.γ k
 | @f n cj hf ht=>
  simp only[rd,Q.run_pure,au] at hr;subst hr;exact .one (.fn (fs:=#[]) (cs:=#[]) ht hf rfl rfl ⟨rfl,rfl⟩ (λi x u h=>by simp at h) (λi x u h=>by simp at h))
def aC.rZ {w':World} {L':aw} {γ γ':Key->Nat} (hs:Step w w' L L' γ γ') {k:Key} {j:Nat} {c:C} {v:Value} (h:aC nm w L γ k j c v)
  (hc:c.clean=true) (k':Key) (j':Nat):aC nm w' L' γ' k' j' c v:=by
 induction h with
 | @d x v h=>
  cases h with
  | plain h=>exact .d (.plain (h.mono hs.bg))
  | jg=>simp[C.clean] at hc
  | own=>simp[C.clean] at hc
 | @ptr r g c v hv hg h=>
  refine .ptr hv (iD hg (hs.dP _)) ?_;intro he;have:=vt (he▸hg) (hs.dP _);obtain⟨B,o,h1,h2⟩:=h (he.trans this);exact⟨B,o,hs.box B r o this h1,h2⟩
 | @eB pl g sz i c v hv hh hg h=>
  refine .eB hv hh (iD hg (hs.dP _)) ?_;intro he;have:=vt (he▸hg) (hs.dP _);obtain⟨B,o,h1,h2⟩:=h (he.trans this);exact⟨B,o,(hs.view B pl o hh this h1).1,h2⟩
 | pp hL hB h=>
  refine .pp (hs.bg _ hL).1 ((hs.bg _ hL).2.trans hB) ?_;intro q x hx;obtain⟨u,h1,h2⟩:=h q x hx;exact⟨u,h1,h2.mono hs.bg⟩
 | @view pl g sz off len v hv hh hg h=>
  refine .view hv hh (iD hg (hs.dP _)) ?_;intro he;have:=vt (he▸hg) (hs.dP _);exact(h (he.trans this)).step hs hh this
 | cY=>simp[C.clean] at hc
 | fn j8 hf h1 h2 aU h3 h4 ta td=>
  exact .fn j8 hf h1 h2 aU (λi x u hx hu=>ta i x u hx hu (jG aU.1 hx)) (λi x u hx hu=>td i x u hx hu (jG aU.2 hx))
 | fns val hf hL hB aU hv h ih=>exact .fns val hf (hs.bg _ hL).1 ((hs.bg _ hL).2.trans hB) aU hv (λi x hx=>ih i x hx (jG aU hx))
 | c7=>exact .c7
 | eY=>exact .eY
 | fQ=>exact .fQ
 | fk=>exact .fk
 | bz=>simp[C.clean] at hc
 | mp=>simp[C.clean] at hc
 | @gq i g v hv hg h=>
  refine .gq hv (iD hg (hs.dP _)) ?_;intro he;have:=vt (he▸hg) (hs.dP _);obtain⟨B,h1,h2⟩:=h (he.trans this);exact⟨B,(hs.view B _ 0 rfl this h1).1,h2⟩
 | dead=>exact .dead
def bJ.rZ {w':World} {L':aw} {γ γ':Key->Nat} (hs:Step w w' L L' γ γ') {k:Key} {x:V} {v:Value} (h:bJ nm w L γ k x v)
  (hc:x.clean=true) (k':Key):bJ nm w' L' γ' k' x v:=by
 induction h with
 | one h=>exact .one (h.rZ hs hc _ _)
 | agg hl h=>exact .agg hl (λj c u h1 h2=>(h j c u h1 h2).rZ hs (jG hc h1) _ _)
 | ao hl aU h ih=>exact .ao hl aU (λi x u h1 h2=>ih i x u h1 h2 (Jm aU h1))
def iS (nm:FuncId->Option Nat) (w0:World) (L0:aw) (γ0:Key->Nat) (w:World) (L:aw) (γ:Key->Nat) (m j:Nat) (c:C) (v:Value):Prop:=
 match c with
 | .view .. => aC nm w0 L0 γ0 (.h m) j c v
 | _=>aC nm w L γ (.h m) j c v
def iS.A0 {γ0 γ:Key->Nat} (hs:Step w0 w L0 L γ0 γ) {k:Key} {m j j':Nat} {c:C} {v:Value} (h:aC nm w0 L0 γ0 k j' c v) (hc:c.own=false):iS nm w0 L0 γ0 w L γ m j c v:=by
 have aU:=h.uv hc;have bF:aC nm w L γ (.h m) j c v:=h.rZ hs aU _ _;have h0:aC nm w0 L0 γ0 (.h m) j c v:=h.any aU _ _;cases c with
 | view=>exact h0
 | _=>exact bF
structure pg (w w':World) (L L':aw) (γ γ':Key->Nat) (K:Place->Prop):Prop where
 cU:Step w w' L L' γ γ'
 h:∀B q o,q.k.aT=false->K q->L B=some (.row q o)->L' B=some (.row q o)/\w'.heap[B]? = w.heap[B]?
def iS.keep {γ0 γ γ':Key->Nat} {w':World} {L':aw} {m j:Nat} {c:C} {v:Value} {K:Place->Prop} (hk:pg w w' L L' γ γ' K)
  (hK:∀p,K ⟨.h m,j,p⟩) (h:iS nm w0 L0 γ0 w L γ m j c v):iS nm w0 L0 γ0 w' L' γ' m j c v:=by
 have step:∀{c:C},aC nm w L γ (.h m) j c v->aC nm w' L' γ' (.h m) j c v:=by
  intro c hc;refine hc.step hk.cU ?_;intro B q o h1 h2 hL;have:=hk.h B q o (by rw[h1];rfl) (by have:=hK q.p;rw[<-h1,<-h2] at this;omega) hL;rwa[<-h1,<-h2,Place.mf]
 cases c with
 | view=>exact h
 | _=>exact step h
def aC.keep {γ γ':Key->Nat} {w':World} {L':aw} {m j:Nat} {c:C} {v:Value} {K:Place->Prop} (hk:pg w w' L L' γ γ' K)
  (hK:∀p,K ⟨.h m,j,p⟩) (h:aC nm w L γ (.h m) j c v):aC nm w' L' γ' (.h m) j c v:=by
 refine h.step hk.cU ?_;intro B q o h1 h2 hL;have:=hk.h B q o (by rw[h1];rfl) (by have:=hK q.p;rw[<-h1,<-h2] at this;omega) hL;rwa[<-h1,<-h2,Place.mf]
def mP (nm:FuncId->Option Nat) (w0:World) (L0:aw) (γ0:Key->Nat) (w:World) (L:aw) (γ:Key->Nat) (m:Nat) (x:V) (v:Value):Prop:=
 match x with
 | .one c=>iS nm w0 L0 γ0 w L γ m 0 c v
 | .agg cs=>∃vs:Array Value,v = .agg vs/\cs.length=vs.size/\∀(j:Nat) c u,cs[j]? = some c->vs[j]? = some u->iS nm w0 L0 γ0 w L γ m j c u
 | .ao _=>bJ nm w L γ (.h m) x v
def mP.keep {γ0 γ γ':Key->Nat} {w':World} {L':aw} {m:Nat} {x:V} {v:Value} {K:Place->Prop} (hk:pg w w' L L' γ γ' K)
  (hK:∀j p,K ⟨.h m,j,p⟩) (h:mP nm w0 L0 γ0 w L γ m x v):mP nm w0 L0 γ0 w' L' γ' m x v:=by
 cases x with
 | one c=>exact iS.keep hk (hK 0) h
 | agg cs=>
  obtain⟨vs,rfl,hl,hc⟩:=h;exact⟨vs,rfl,hl,λj c u h1 h2=>(hc j c u h1 h2).keep hk (hK j)⟩
 | ao vs=>
  refine bJ.step hk.cU ?_ h;intro B q o h1 hL;have:=hk.h B q o (by rw[h1];rfl) (by have:=hK q.j q.p;rw[<-h1] at this;omega) hL;rwa[<-h1,Place.mf]
def MQ {x:V} {j:Nat} {c:C} (h:x.own=false) (hc:x.cells[j]? = some c):c.own=false:=by
 unfold V.own at h;rw[List.any_eq_false] at h;have:=h c (ff hc);simp_all
def mP.A0 {γ0 γ:Key->Nat} (hs:Step w0 w L0 L γ0 γ) {k:Key} {m:Nat} {x:V} {v:Value} (h:bJ nm w0 L0 γ0 k x v) (hc:x.own=false):mP nm w0 L0 γ0 w L γ m x v:=by
 cases h with
 | one h=>exact iS.A0 hs h (MQ (j:=0) hc rfl)
 | @agg cs vs hl h=>exact⟨vs,rfl,hl,λj c u h1 h2=>iS.A0 hs (h j c u h1 h2) (MQ hc h1)⟩
 | ao hl aU h=>exact bJ.rZ hs (.ao hl aU h) (by simpa[V.clean] using aU) _
def DO (k:Key) (g j:Nat) (c:C):(c.look k g j).own=false:=by
 cases c with
 | d x=>
  cases x with
  | sl t sz rows=>cases t<;>rfl
  | _=>rfl
 | _=>rfl
def abD (k:Key) (g:Nat):∀(cs:List C) (j:Nat),(uV k g j cs).any C.own=false
 | [],_=>rfl
 | c::cs,j=>by simp[uV,DO,abD k g cs (j+1)]
def V.DO (k:Key) (g:Nat) (x:V):(x.look k g).own=false:=by
 cases x with
 | one c=>simp[V.look,V.own,V.cells,Go.ax.DO]
 | agg cs=>exact abD k g cs 0
 | ao vs=>rfl
def X.iJ:X->Bool
 | .c v=>!v.own
 | _=>true
def Nc {S:St} {x:X} (hx:x.iJ=true) {v:V} (hr:(rd x).run S=some v):v.own=false:=by
 cases x with
 | s i=>
  simp only[rd,Q.run_bind,Q.w9,Option.bind_some,Q.run_pure,au] at hr;subst hr;exact V.DO _ _ _
 | t i=>
  simp only[rd,Q.run_bind,Q.w9,Option.bind_some,Q.run_pure,au] at hr;subst hr;exact V.DO _ _ _
 | c v=>
  simp only[rd,Q.run_pure,au] at hr;subst hr;simpa[X.iJ] using hx
 | f n=>
  simp only[rd,Q.run_pure,au] at hr;subst hr;rfl
structure Out (nm:FuncId->Option Nat) (N:Nat) (S0:St) (w0:World) (L0:aw) (ws e8:List Wr) (a:Act) (w:World) (L L':aw) (K:Place->Prop) (m:Nat):Prop where
 mid:cf nm N S0 w0 L0 e8 a w L'
 cU:Step w w L L' (S0.ai ws).γ (S0.ai e8).γ
 Dk:∀B q o,q.k.aT=false->K q->L B=some (.row q o)->L' B=some (.row q o)
 yO:∀B q o,q.k.aT=false->q.k≠.h m->L' B=some (.row q o)->L B=some (.row q o)
def Out.refl (M:cf nm N S0 w0 L0 ws a w L) (K:Place->Prop) (m:Nat):Out nm N S0 w0 L0 ws ws a w L L K m:=
 ⟨M,Step.same w L (λ_=>cp _),λ_ _ _ _ _ h=>h,λ_ _ _ _ _ h=>h⟩
def Out.trans {e8 afR:List Wr} {L' EZ:aw} {K:Place->Prop} {m:Nat} (h:Out nm N S0 w0 L0 ws e8 a w L L' K m) (k:Out nm N S0 w0 L0 e8 afR a w L' EZ K m) :
  Out nm N S0 w0 L0 ws afR a w L EZ K m:=
 ⟨k.mid,h.cU.trans k.cU,λB q o h1 h2 h3=>k.Dk B q o h1 h2 (h.Dk B q o h1 h2 h3),λB q o h1 h2 h3=>h.yO B q o h1 h2 (k.yO B q o h1 h2 h3)⟩
def Out.weaken {e8:List Wr} {L':aw} {K K':Place->Prop} {m:Nat} (h:Out nm N S0 w0 L0 ws e8 a w L L' K m) (hK:∀q,K' q->K q):Out nm N S0 w0 L0 ws e8 a w L L' K' m:=
 ⟨h.mid,h.cU,λB q o h1 h2=>h.Dk B q o h1 (hK q h2),h.yO⟩
def Out.keep {e8:List Wr} {L':aw} {K:Place->Prop} {m:Nat} (h:Out nm N S0 w0 L0 ws e8 a w L L' K m):pg w w L L' (S0.ai ws).γ (S0.ai e8).γ K:=
 ⟨h.cU,λB q o h1 h2 h3=>⟨h.Dk B q o h1 h2 h3,rfl⟩⟩
def Out.free {e8:List Wr} {L':aw} {K:Place->Prop} {m m':Nat} (h:Out nm N S0 w0 L0 ws e8 a w L L' K m) (hf:sw L m') (aD:m'≠m):sw L' m':=by
 intro B q o hL e;exact hf B q o (h.yO B q o (by rw[e];rfl) (by simp_all) hL) e
def r9 (M:cf nm N S0 w0 L0 ws a w L) (R0:Rel nm N S0 a w0 L0) {m:Nat} (hm:sw L m) {x:X} {o:Operand} (hx:x.iJ=true) (ho:bV nm x o) {r:V×List Wr}
  (hr:(tk ws x).run S0=some r) :
  ∃L',Out nm N S0 w0 L0 ws r.2 a w L L' (λ_=>True) m/\mP nm w0 L0 S0.γ w L' (S0.ai r.2).γ m r.1 (a.eval o):=by
 have reads:∀v,(rd x).run S0=some v->mP nm w0 L0 S0.γ w L (S0.ai ws).γ m v (a.eval o):=λv hv=>
  mP.A0 M.cU (ads R0 ho hv (.h m)) (Nc hx hv)
 cases x with
 | t i=>
  cases ho with
  | t=>
  simp only[tk,Q.run_bind,Q.w9,Option.bind_some,Q.pW] at hr;cases hw:qj ws (.s i) with
  | some v=>simp_all
  | none=>
   simp only[hw,Option.isNone_none,dj,Option.bind_some,Q.run_ite,Q.run_pure] at hr;have hE:(S0.ai ws).E (.s i)=S0.E (.s i):=by rw[CA,hw];rfl
   by_cases kD:S0.E (.s i) |>.own
   ·have Kk:(S0.get (.s i)).v.own=true:=kD;simp only[Kk,dj,au] at hr;subst hr;obtain⟨L',h1,h2,h3,h4,h5,h6,h7⟩:=M.rel.take i m hm;rw[hE] at h2;have aaq:Step w w L L' (S0.ai ws).γ ((S0.ai ws).wr { k:=.s i,v:=V.dead }).γ:=by
     refine⟨λB hB=>⟨(h3 B).1 hB,rfl⟩,St.qa _ _,?_,λ_ _ _ _ _ _ _=>rfl,λB r o _ hB=>(h6 B r o).1 hB⟩;intro B q o hq hγ hL;rw[ET] at hγ;have aD:=Fb hγ;exact⟨(h4 B q o aD (by intro e;rw[e] at hq;simp[Key.aT] at hq)).1 hL,λcur e fz hB=>⟨cur,hB,rfl⟩⟩
    refine⟨L',⟨⟨h1,M.cU.trans aaq,?_,?_,M.heap,M.wC,λB r o hB=>(h6 B r o).1 (M.boxes B r o hB)⟩,aaq,?_,?_⟩,?_⟩
    ·exact M.mono.trans ⟨rfl,rfl,rfl,cp _,λB hB=>⟨(h3 B).1 hB,rfl⟩,λB _ hB=>⟨(h5 B).2 hB,rfl⟩,λB i o hB=>(h6 B _ o).1 hB⟩
    ·intro B q o hq hL;by_cases hqs:q.k = .s i
     ·exact absurd hqs (h7 B q o hL)
     ·exact M.rows B q o hq ((h4 B q o hqs (by intro e;rw[e] at hq;simp[Key.aT] at hq)).2 hL)
    ·intro B q o hq _ hL;by_cases yk:q.k = .h m
     ·exact absurd yk (hm B q o hL)
     ·exact(h4 B q o (by intro e;rw[e] at hq;simp[Key.aT] at hq) yk).1 hL
    ·intro B q o hq yk hL;exact(h4 B q o (by intro e;rw[e] at hq;simp[Key.aT] at hq) yk).2 hL
    ·have h0:=R0.slot i;show mP nm w0 L0 S0.γ w L' _ m (S0.E (.s i)) (a.tmps.getD i undef);generalize a.tmps.getD i undef=v0 at *;cases hv:S0.E (.s i) with
     | one c=>
      rw[hv] at h2 h0;cases h2 with
      | one h2=>
       cases h0 with
       | one h0=>
        cases c with
        | view=>exact h0.any rfl _ _
        | _=>exact h2
     | agg cs=>
      rw[hv] at h2 h0;cases h2 with
      | @agg _ vs hl h2=>
       refine⟨vs,rfl,hl,?_⟩;intro j c u g1 g2;cases h0 with
       | agg rj h0=>
        cases c with
        | view=>exact(h0 j _ u g1 g2).any rfl _ _
        | _=>exact h2 j _ u g1 g2
     | ao vs=>rw[hv] at h2;exact h2
   ·have alp:=by simpa using kD
    have Kk:(S0.get (.s i)).v.own=false:=alp;simp only[Kk,xn,eX,au] at hr;subst hr;exact⟨L,Out.refl M _ m,mP.A0 M.cU (R0.slot i) Kk⟩
 | s i=>
  simp only[tk,Q.run_bind] at hr;cases hv:(rd (.s i)).run S0 with
  | none=>simp_all
  | some v=>
   simp only[hv,Option.bind_some,Q.run_pure,au] at hr;subst hr;exact⟨L,Out.refl M _ m,reads v hv⟩
 | c cv=>
  simp only[tk,Q.run_bind] at hr;cases hv:(rd (.c cv)).run S0 with
  | none=>simp_all
  | some v=>
   simp only[hv,Option.bind_some,Q.run_pure,au] at hr;subst hr;exact⟨L,Out.refl M _ m,reads v hv⟩
 | f n=>
  simp only[tk,Q.run_bind] at hr;cases hv:(rd (.f n)).run S0 with
  | none=>simp_all
  | some v=>
   simp only[hv,Option.bind_some,Q.run_pure,au] at hr;subst hr;exact⟨L,Out.refl M _ m,reads v hv⟩
def IP {S:St}:∀{ws:List Wr} {k:Key},qj ws k=none->(S.ai ws).γ k=S.γ k
 | [],_,_=>rfl
 | x::t,k,h=>by
  simp only[qj] at h;by_cases hk:x.k=k
  ·simp_all
  ·simp only[hk,eX] at h;simp only[St.ai,St.jX,hk,eX];exact IP h
def JO {S:St} {ws:List Wr} {k:Key} (h:fresh ws k=true):(S.ai ws).γ k=S.γ k/\(S.ai ws).γ (.a k)=S.γ (.a k)/\(S.ai ws).E k=S.E k:=by
 simp only[fresh,cI,afU] at h;exact⟨IP h.1,IP h.2,by rw[CA,h.1];rfl⟩
def Rel.ass {S:St} (h:Rel nm N S a w L) {L':aw} (fU:∀B,L B=some .bg->L' B=some .bg)
  (dr:∀B q o,q.k.aT=true->(L B=some (.row q o)->L' B=some (.row q o)))
  (ia:∀B r o,L' B=some (.box r o)↔L B=some (.box r o)) (hd:∀B l,L' B=some l->∃l0,L B=some l0) (oC:mR L'):Rel nm N S a w L':=by
 have bF:Step w w L L' S.γ S.γ:=by
  refine⟨λB hB=>⟨fU B hB,rfl⟩,λ_=>cp _,?_,λ_ _ _ _ _ _ _=>rfl,λB r o _ hB=>(ia B r o).2 hB⟩;intro B q o hq _ hB;exact⟨dr B q o hq hB,λcur e fz hc=>⟨cur,hc,rfl⟩⟩
 refine⟨h.size,h.defers,?_,?_,h.kx,h.bound,λr hg hr=>let ⟨B,o,cur,e,fz,h1,h2,h3,h4⟩:=h.room r hg hr;⟨B,o,cur,e,fz,(ia _ _ _).2 h1,h2,h3,h4⟩,?_,oC,?_⟩
 ·intro i;refine(h.slot i).step bF ?_;intro B q o hq hB;refine⟨?_,rfl⟩;rw[<-hq,Place.mf];exact dr B q o (by rw[hq];rfl) hB
 ·intro r c x hx gp;exact(h.cell r c x hx gp).step bF (λB q o hq hB=>⟨dr B q o (by rw[hq];rfl) hB,rfl⟩) (λB o hB=>⟨(ia _ _ _).2 hB,λcur e fz hc=>⟨cur,hc,rfl,rfl⟩⟩)
 ·intro B l hB;obtain⟨l0,h0⟩:=hd B l hB;exact h.fx B l0 h0
 ·intro B B' r o o' h1 h2;exact h.fy B B' r o o' ((ia _ _ _).1 h1) ((ia _ _ _).1 h2)
def Place.E7 (pl:Place):(⟨pl.k,pl.j,[]⟩:Place).app pl.p=pl:=by simp[Place.app]
def cf.BS (M:cf nm N S0 w0 L0 ws a w L) {pl:Place} (hk:pl.k.aT=true) {x:D} {sz:Nat} {rows:List (List D)}
  (hE:((S0.ai ws).E pl.k).cells[pl.j]? = some (.d x)) (hn:ek x pl.p=some (.sl .own sz rows)):∃u,bt w L pl (.sl .own sz rows) u:=by
 obtain⟨u,hu⟩:=M.rel.agU hk hE;obtain⟨u',kb⟩:=hu.nav pl.p hn;exact⟨u',kb⟩
def asx {t q:Place} (ht:t.k.aT=true) (hq:q.k.aT=false):¬ bM t q:=by
 intro h;rw[h.key.1,ht] at hq;cases hq
def Out.freeze (M:cf nm N S0 w0 L0 ws a w L) {pl:Place} (hk:pl.k.aT=true) {x:D} {sz:Nat} {rows:List (List D)}
  (hE:((S0.ai ws).E pl.k).cells[pl.j]? = some (.d x)) (hn:ek x pl.p=some (.sl .own sz rows)) (m:Nat) :
  Out nm N S0 w0 L0 ws (nS ws pl.k (((S0.ai ws).E pl.k).setCell pl.j (.d (eo x pl.p (.sl (.im false) sz (aK rows)))))) a w L (hC pl L) (λ_=>True) m:=by
 refine⟨M.freeze hk hE hn,?_,λB q o hq _ hL=>sO hL (asx hk hq),λB q o _ _ hL=>(Cw hL).1⟩;show Step w w L _ (S0.ai ws).γ ((S0.ai ws).wr { k:=pl.k,v:=_ }).γ;rw[ET];refine⟨λB hB=>⟨pC hB,rfl⟩,O5 _ _,?_,λ_ _ _ _ _ _ _=>rfl,λB r o _ hB=>xQ.2 hB⟩;intro B q o hq hγ hL;exact⟨sO hL (λhu=>Fb hγ hu.key.1),λcur e fz hB=>⟨cur,hB,rfl⟩⟩
def vh (M:cf nm N S0 w0 L0 ws a w L) {m j:Nat} {c:C} {v:Value} (hc:iS nm w0 L0 S0.γ w L (S0.ai ws).γ m j c v) {r:C×List Wr}
  (hr:(st ws c).run S0=some r) :
  ∃L',Out nm N S0 w0 L0 ws r.2 a w L L' (λq=>¬ (q.k = .h m/\q.j=j)) m/\aC nm w L' (S0.ai r.2).γ (.h m) j r.1 v:=by
 have zd:∀c0:C,st ws c0=pure (c0,ws)->iS nm w0 L0 S0.γ w L (S0.ai ws).γ m j c0 v->(∀pl g sz off len,c0≠.view pl g sz off len)->(st ws c0).run S0=some r->
   ∃L',Out nm N S0 w0 L0 ws r.2 a w L L' (λq=>¬ (q.k = .h m/\q.j=j)) m/\aC nm w L' (S0.ai r.2).γ (.h m) j r.1 v:=by
  intro c0 h0 h1 yj h2;rw[h0] at h2;simp at h2;subst h2;refine⟨L,Out.refl M _ m,?_⟩;cases c0 with
  | view pl g sz off len=>exact absurd rfl (yj pl g sz off len)
  | _=>exact h1
 cases c with
 | view pl g sz off len=>
  simp only[st,Q.run_bind] at hr;cases ho:(jO ws pl g sz).run S0 with
  | none=>simp_all
  | some e=>
   obtain⟨e,x,rows⟩:=e;obtain⟨rfl,hg,hE,hn⟩:=u4 ho;simp only[ho,Option.bind_some,Q.run_bind,Q.pW] at hr;by_cases hle:off+len<=rows.length
   ·simp only[aM hle,dj,Option.bind_some,Q.run_pure,au] at hr;subst hr;cases hc with
    | view hv hh Ri hV=>
     obtain⟨u,hu⟩:=M.BS hh hE hn;refine⟨hC pl L,(Out.freeze M hh hE hn m).weaken (λ_ _=>trivial),.d (.plain ?_)⟩;exact asB M.wC (λB o hL=>M.rows B pl o hh hL) hu (hV hg) hle
   simp_all
 | cY pl g aa sz rows=>
  simp only[st,Q.run_bind] at hr;cases ho:(jO ws pl g sz).run S0 with
  | none=>simp_all
  | some e=>
   obtain⟨e,x,dJ⟩:=e;obtain⟨rfl,hg,hE,hn⟩:=u4 ho;simp only[ho,Option.bind_some,Q.run_bind,Q.w9,Q.pW] at hr;cases rh:((S0.get (.a pl.k)).g==aa&&fresh ws pl.k) with
   | false=>simp_all
   | true=>
    simp only[rh,dj,Option.bind_some,Q.run_pure,au] at hr;subst hr;simp at rh;obtain⟨g1,g2,_⟩:=JO (S:=S0) rh.2;cases hc with
    | cY hv hh Ri akQ hV=>
     have hA:=hV (by omega) (by rw[g2];exact rh.1.symm);have O1:=Out.freeze M hh hE hn m;generalize uN:nS ws pl.k (((S0.ai ws).E pl.k).setCell pl.j (.d (eo x pl.p (.sl (.im false) sz (aK dJ)))))=eS at *;have As:∀{q:Place},q.k.aT=true->¬ bM ⟨.h m,j,[]⟩ q:=by
      intro q hq hu;rw[hu.key.1] at hq;simp[Key.aT] at hq
     have aap:Step w w (hC pl L) (hC ⟨.h m,j,[]⟩ (hC pl L)) (S0.ai eS).γ (S0.ai eS).γ:=by
      refine⟨λB hB=>⟨pC hB,rfl⟩,λ_=>cp _,?_,λ_ _ _ _ _ _ _=>rfl,λB r o _ hB=>xQ.2 hB⟩;intro B q o hq _ hL;exact⟨sO hL (As hq),λcur e fz hB=>⟨cur,hB,rfl⟩⟩
     have M2:cf nm N S0 w0 L0 eS a w (hC ⟨.h m,j,[]⟩ (hC pl L)):=by
      refine⟨O1.mid.rel.ass (λB hB=>pC hB) (λB q o hq hL=>sO hL (As hq)) (λB r o=>xQ) (λB l hB=>Zk hB) (Zl O1.mid.rel.ey),O1.mid.cU.trans aap,O1.mid.mono.trans (Zm _),?_,O1.mid.heap,O1.mid.wC,λB r o hB=>xQ.2 (O1.mid.boxes B r o hB)⟩;intro B q o hq hL;exact O1.mid.rows B q o hq (Cw hL).1
     refine⟨_,⟨M2,O1.cU.trans aap,?_,?_⟩,?_⟩
     ·intro B q o hq hK hL;exact sO (O1.Dk B q o hq trivial hL) (λhu=>hK hu.key)
     ·intro B q o hq yk hL;exact O1.yO B q o hq yk (Cw hL).1
     ·refine .d (.plain ?_);rcases hA with⟨rfl,a0,rfl⟩ | ⟨B,o,cap,cur,e,fz,n0,val,rfl,aY,hL,hB,c6,fO,eC,dU,cH,hd,dW⟩
      ·exact .mE
      ·have fU:hC ⟨.h m,j,[]⟩ (hC pl L) B=some .bg:=by
        rcases hL with hL | hL
        ·exact pC (xR hL (bM.refl _))
        ·by_cases hu:bM pl ⟨.h m,j,[]⟩
         ·exact pC (xR hL hu)
         ·exact xR (sO hL hu) (bM.refl _)
       rw[<-A3 rows];cases wj:rows with
       | nil=>exact .mE
       | cons r0 t0=>
        rw[<-wj];refine .pl (cur:=cur) (e:=e) (fz:=fz) val (by rw[wj];simp[aK]) aY (by rw[A3];omega) fU hB ?_ ?_ ?_
        ·intro r eN;rw[D9] at eN;obtain⟨r1,h1,rfl⟩:=kJ.1 eN;simpa using fO r1 h1
        ·intro i c x hx;rw[B9] at hx;cases hy:cellOf rows i c with
         | none=>simp_all
         | some y=>simp_all
        ·intro i c x hx;rw[B9] at hx;cases hy:cellOf rows i c with
         | none=>simp_all
         | some y=>
          simp only[hy,fJ,au] at hx;subst hx;refine bt.freeze (λq=>bM pl q\/bM ⟨.h m,j,[]⟩ q) (λq i c h=>Or.imp (λh=>h.sub i c) (λh=>h.sub i c) h) (λB hB=>⟨pC (pC hB),rfl⟩) ?_ (hd i c y hy) ?_
          ·intro B q o hq hL;refine⟨?_,rfl⟩;by_cases wi:bM pl q
           ·exact pC (xR hL wi)
           ·exact xR (sO hL wi) (hq.resolve_left wi)
          ·split
           ·exact .inl ((bM.refl pl).sub i c)
           ·exact .inr ((bM.refl _).sub i c)
 | eB=>simp[st] at hr
 | bz=>simp[st] at hr
 | mp=>simp[st] at hr
 | gq=>simp[st] at hr
 | dead=>simp[st] at hr
 | d x=>exact zd _ rfl hc (by simp) hr
 | ptr r g c=>exact zd _ rfl hc (by simp) hr
 | pp cells=>exact zd _ rfl hc (by simp) hr
 | fn f b d=>exact zd _ rfl hc (by simp) hr
 | c7=>exact zd _ rfl hc (by simp) hr
 | eY=>exact zd _ rfl hc (by simp) hr
 | fQ=>exact zd _ rfl hc (by simp) hr
 | fk=>exact zd _ rfl hc (by simp) hr
end
end
section
section
variable {nm:FuncId->Option Nat} {N:Nat} {S0:St} {w0:World} {L0:aw} {ws:List Wr} {a:Act} {w:World} {L:aw}
def iS.rep {γ0 γ:Key->Nat} (hs:Step w0 w L0 L γ0 γ) {m j:Nat} {c:C} {v:Value} (h:iS nm w0 L0 γ0 w L γ m j c v):aC nm w L γ (.h m) j c v:=by
 cases c with
 | view=>exact aC.rZ hs h rfl _ _
 | _=>exact h
def mP.rep {γ0 γ:Key->Nat} (hs:Step w0 w L0 L γ0 γ) {m:Nat} {x:V} {v:Value} (h:mP nm w0 L0 γ0 w L γ m x v):bJ nm w L γ (.h m) x v:=by
 cases x with
 | one c=>exact .one (iS.rep hs h)
 | agg cs=>
  obtain⟨vs,rfl,hl,hc⟩:=h;exact .agg hl λj c u h1 h2=>(hc j c u h1 h2).rep hs
 | ao vs=>exact h
def NA {m:Nat}:∀(cs:List C) {ws:List Wr} {L:aw} (M:cf nm N S0 w0 L0 ws a w L) (j0:Nat) (vs:Nat->Value)
  (hc:∀j c,cs[j]? = some c->iS nm w0 L0 S0.γ w L (S0.ai ws).γ m (j0+j) c (vs (j0+j))) {r:List C×List Wr} (hr:(l7 ws cs).run S0=some r),
  ∃L',Out nm N S0 w0 L0 ws r.2 a w L L' (λq=>¬ (q.k = .h m/\j0<=q.j)) m/\r.1.length=cs.length/\
   ∀j c,r.1[j]? = some c->aC nm w L' (S0.ai r.2).γ (.h m) (j0+j) c (vs (j0+j))
 | [],ws,L,M,j0,vs,hc,r,hr=>by
  simp only[l7,Q.run_pure,au] at hr;subst hr;exact⟨L,Out.refl M _ m,rfl,λj c h=>by simp at h⟩
 | c::cs,ws,L,M,j0,vs,hc,r,hr=>by
  simp only[l7,Q.run_bind] at hr;cases h1:(st ws c).run S0 with
  | none=>simp[h1] at hr
  | some r1=>
   obtain⟨c1,eS⟩:=r1;simp only[h1,Option.bind_some,Q.run_bind] at hr;cases h2:(l7 eS cs).run S0 with
   | none=>simp[h2] at hr
   | some r2=>
    obtain⟨Fk,fu⟩:=r2;simp only[h2,Option.bind_some,Q.run_pure,au] at hr;subst hr;obtain⟨L1,O1,R1⟩:=vh M (by simpa using hc 0 c rfl) h1
    obtain⟨L2, O2, hl, R2⟩ := NA cs O1.mid (j0 + 1) vs (λj c h => by
      have := hc (j + 1) c (by simpa using h)
      have := this.keep O1.keep (λp => by simp)
      rwa[show j0 + 1 + j = j0 + (j + 1) by omega]) h2
    refine⟨L2,(O1.weaken ?_).trans (O2.weaken ?_),by simp[hl],?_⟩
    ·intro q hq h;exact hq ⟨h.1,by omega⟩
    ·intro q hq h;exact hq ⟨h.1,by omega⟩
    ·intro j c hj;cases j with
     | zero=>
      simp only[qQ,au] at hj;subst hj;exact R1.keep O2.keep (λp=>by simp)
     | succ j=>
      have:=R2 j c (by simpa using hj);rwa[show j0+1+j=j0+(j+1) by omega] at this
structure ob (nm:FuncId->Option Nat) (N:Nat) (S:St) (w0:World) (L0:aw) (a:Act) (w:World) (L:aw):Prop where
 rel:Rel nm N S a w L
 mono:dc w0 w L0 L
 yH:eA L
def cf.done (M:cf nm N S0 w0 L0 ws a w L) {m d:Nat} {x:V} {v:Value} (hd:d < N) (hv:bJ nm w L (S0.ai ws).γ (.h m) x v) :
  ∃L',ob nm N (S0.ai ({ k:=.s d,v:=x } :: ws)) w0 L0 (a.put (some d) v) w L':=by
 obtain⟨L',h1,h2,h3,_⟩:=M.rel.aer hd hv;exact⟨L',h1,M.mono.trans h3,h2⟩
end
end
section
section
variable {nm:FuncId->Option Nat} {N:Nat} {S0:St} {w0:World} {L0:aw} {ws:List Wr} {a:Act} {w:World} {L:aw}
def Out.apW (M:cf nm N S0 w0 L0 ws a w L) {e8:List Wr} {L':aw} {K:Place->Prop} {m:Nat}
  (rn:Rel nm N (S0.ai e8) a w L') (re:∀k,(S0.ai ws).γ k<=(S0.ai e8).γ k)
  (fU:∀B,L B=some .bg->L' B=some .bg) (wc:∀B,L B=none->L' B=none)
  (ia:∀B r o,L B=some (.box r o)->L' B=some (.box r o))
  (di:∀B q o,q.k.aT=true->(S0.ai e8).γ q.k=(S0.ai ws).γ q.k->L B=some (.row q o)->L' B=some (.row q o))
  (vU:∀B q o,q.k.aT=true->L' B=some (.row q o)->L B=some (.row q o))
  (hK:∀B q o,q.k.aT=false->K q->L B=some (.row q o)->L' B=some (.row q o))
  (hm:∀B q o,q.k.aT=false->q.k≠.h m->L' B=some (.row q o)->L B=some (.row q o)) :
  Out nm N S0 w0 L0 ws e8 a w L L' K m:=by
 have bF:Step w w L L' (S0.ai ws).γ (S0.ai e8).γ:=
  ⟨λB hB=>⟨fU B hB,rfl⟩,re,λB q o hq hγ hL=>⟨di B q o hq hγ hL,λcur e fz hB=>⟨cur,hB,rfl⟩⟩,λ_ _ _ _ _ _ _=>rfl,λB r o _ hB=>ia B r o hB⟩
 refine⟨⟨rn,M.cU.trans bF,M.mono.trans ⟨rfl,rfl,rfl,cp _,λB hB=>⟨fU B hB,rfl⟩,λB _ hB=>⟨wc B hB,rfl⟩,λB i o hB=>ia B _ o hB⟩,?_,M.heap,M.wC,λB r o hB=>ia B r o (M.boxes B r o hB)⟩,bF,hK,hm⟩;intro B q o hq hL;exact M.rows B q o hq (vU B q o hq hL)
def Ng {f:Place->Option Place} {B:Nat} (h:L B=none):cT f L B=none:=by simp[cT,h]
def alN {k:Key} (hk:k.aT=true):(∃i,k = .s i)\/∃r c,k = .b r c:=by
 cases k with
 | s i=>exact .inl ⟨i,rfl⟩
 | b r c=>exact .inr ⟨r,c,rfl⟩
 | _=>simp[Key.aT] at hk
def Place.rest (pl q:Place):List (Nat×Nat):=q.p.drop pl.p.length
def Place.Nj (pl:Place) (r:List (Nat×Nat)):pl.rest (pl.app r)=r:=by simp[Place.rest,Place.app]
open Classical in
noncomputable def kA (pl:Place) (m j:Nat) (jQ:List (Nat×Nat)->Bool):Place->Option Place:=λq=>
 if bM pl q then(if jQ (pl.rest q)=true then some ⟨.h m,j,pl.rest q⟩ else none)
 else if q.k = .h m/\q.j=j then(if jQ q.p=true then none else some q) else some q
def bM.eq {pl q:Place} (h:bM pl q):q=pl.app (pl.rest q):=by
 obtain⟨r,rfl⟩:=h;rw[Place.Nj]
def Fh {pl:Place} {m j:Nat} {jQ:List (Nat×Nat)->Bool} {q:Place} (h1:¬ bM pl q) (h2:¬ (q.k = .h m/\q.j=j)):kA pl m j jQ q=some q:=by
 unfold kA;rw[aI h1,aI h2]
def Ji {pl:Place} {m j:Nat} {jQ:List (Nat×Nat)->Bool} {q:Place} (h1:bM pl q) (h2:jQ (pl.rest q)=true):kA pl m j jQ q=some ⟨.h m,j,pl.rest q⟩:=by
 unfold kA;rw[aP h1,aP h2]
def XW {pl:Place} {m j:Nat} {jQ:List (Nat×Nat)->Bool} {q:Place} (h1:¬ bM pl q) (h2:q.k = .h m/\q.j=j) (h3:jQ q.p=false):kA pl m j jQ q=some q:=by
 unfold kA;rw[aI h1,aP h2,aI (by simp[h3])]
def PA {pl:Place} {m j:Nat} {jQ:List (Nat×Nat)->Bool} {q t:Place} (h:kA pl m j jQ q=some t) :
  (bM pl q/\jQ (pl.rest q)=true/\t=⟨.h m,j,pl.rest q⟩)\/(¬ bM pl q/\(q.k = .h m/\q.j=j)/\jQ q.p=false/\t=q)\/(¬ bM pl q/\¬ (q.k = .h m/\q.j=j)/\t=q):=by
 unfold kA at h;by_cases hu:bM pl q
 ·rw[aP hu] at h;by_cases hs:jQ (pl.rest q)=true
  ·rw[aP hs] at h;exact .inl ⟨hu,hs,by simpa using h.symm⟩
  ·rw[aI hs] at h;cases h
 ·rw[aI hu] at h;by_cases hm:q.k = .h m/\q.j=j
  ·rw[aP hm] at h;by_cases hs:jQ q.p=true
   ·rw[aP hs] at h;cases h
   ·rw[aI hs] at h;exact .inr (.inl ⟨hu,hm,by simpa using hs,by simpa using h.symm⟩)
  ·rw[aI hm] at h;exact .inr (.inr ⟨hu,hm,by simpa using h.symm⟩)
def agV (pl:Place) (m j:Nat) (jQ:List (Nat×Nat)->Bool) {q q' t:Place} (h1:kA pl m j jQ q=some t) (h2:kA pl m j jQ q'=some t):q=q':=by
 rcases PA h1 with⟨a1,a2,a3⟩ | ⟨a1,a2,a3,a4⟩ | ⟨a1,a2,a3⟩<;>rcases PA h2 with⟨b1,b2,b3⟩ | ⟨b1,b2,b3,b4⟩ | ⟨b1,b2,b3⟩
 ·rw[a3] at b3;simp at b3;rw[a1.eq,b1.eq,b3]
 ·rw[<-b4,a3] at b3;rw[a2] at b3;cases b3
 ·exact absurd (by rw[<-b3,a3];exact⟨rfl,rfl⟩) b2
 ·rw[<-a4,b3] at a3;rw[b2] at a3;cases a3
 ·rw[<-a4,<-b4]
 ·exact absurd (by rw[<-b3,a4];exact a2) b2
 ·exact absurd (by rw[<-a3,b3];exact⟨rfl,rfl⟩) a2
 ·exact absurd (by rw[<-a3,b4];exact b2) a2
 ·rw[<-a3,<-b3]
def XV {pl:Place} {m j:Nat} {jQ:List (Nat×Nat)->Bool} {q t:Place} (h1:kA pl m j jQ q=some t) (h2:¬ (t.k = .h m/\t.j=j)):q=t/\¬ bM pl q:=by
 rcases PA h1 with⟨a1,a2,a3⟩ | ⟨a1,a2,a3,a4⟩ | ⟨a1,a2,a3⟩
 ·exact absurd (by rw[a3];exact⟨rfl,rfl⟩) h2
 ·exact absurd (by rw[a4];exact a2) h2
 ·exact⟨a3.symm,a1⟩
def cf.FK (M:cf nm N S0 w0 L0 ws a w L) {m j:Nat} {pl:Place} (hk:pl.k.aT=true) {sz:Nat} {rows:List (List D)} {x:D} (b:List (Nat×Nat)->Bool)
  (hE:((S0.ai ws).E pl.k).cells[pl.j]? = some (.d x)) (hn:ek x pl.p=some (.sl .own sz rows)) :
  Out nm N S0 w0 L0 ws (nS ws pl.k (wE ((S0.ai ws).E pl.k) pl x)) a w L (cT (kA pl m j b) L) (λq=>¬ (q.k = .h m/\q.j=j)) m:=by
 have oC:=HV M.rel.ey (λq q' t B B' o o' h1 h2 _ _=>agV pl m j b h1 h2);have Gm:∀{q:Place},q.k.aT=true->¬ (q.k = .h m/\q.j=j):=λhq h=>by rw[h.1] at hq;simp[Key.aT] at hq
 have rn:Rel nm N ((S0.ai ws).wr { k:=pl.k,v:=wE ((S0.ai ws).E pl.k) pl x }) a w (cT (kA pl m j b) L):=by
  refine M.rel.ad8 (alN hk) hE (by simp) (λB hB=>jP.2 hB) ?_ ?_ (λB r o=>jw) (λB l hB=>HU hB) oC ?_
  ·intro B q o hq Gt hL;exact gO hL (Fh (λh=>hq h.key.1) (Gm Gt))
  ·intro B q o hq Gs hL;exact gO hL (Fh (λh=>Gs h.key.2) (Gm (by rw[hq];exact hk)))
  ·intro u hu;cases hu with
   | d hd=>
    refine .d ?_;have QN:=Place.E7 pl;refine bt.subst pl.p hd hn (λB hB=>⟨jP.2 hB,rfl⟩) ?_ ?_ rfl
    ·intro B' q o' h1 h2 h3;exact gO h3 (Fh h2 (Gm (by rw[h1.key.1];exact hk)))
    ·intro u' kb;exact .plain (.dead kb.wT)
 refine Out.apW M rn (λk=>St.qa _ _ k) (λB hB=>jP.2 hB) (λB hB=>Ng hB) (λB r o hB=>jw.2 hB) ?_ ?_ ?_ ?_
 ·intro B q o hq hγ hL;have:q.k≠pl.k:=by
   intro e;rw[e] at hγ;simp only[nS,St.ai,ET,bump,dj] at hγ;omega
  exact gO hL (Fh (λh=>this h.key.1) (Gm hq))
 ·intro B q o hq hL;obtain⟨q0,h1,h2⟩:=oR hL;have:=(XV h2 (Gm hq)).1;rwa[this] at h1
 ·intro B q o hq hK hL;refine gO hL (Fh (λh=>?_) hK);rw[h.key.1,hk] at hq;cases hq
 ·intro B q o hq yk hL;obtain⟨q0,h1,h2⟩:=oR hL;have:=(XV h2 (λh=>yk h.1)).1;rwa[this] at h1
def bM.Uj {pl q:Place} (h:bM pl q) (i c:Nat):pl.rest (q.sub i c)=pl.rest q++[(i,c)]:=by
 obtain⟨r,rfl⟩:=h;rw[<-Place.E8,Place.Nj,Place.Nj]
def Ba (pl:Place):pl.rest pl=[]:=by have:=Place.Nj pl [];rwa[Place.BQ] at this
def adB (pl:Place) (i c:Nat):pl.rest (pl.sub i c)=[(i,c)]:=by rw[(bM.refl pl).Uj,Ba];rfl
def lX (b:Bool) (n0:Nat):List (Nat×Nat)->Bool
 | []=>b
 | (i,_)::_=>decide (i < n0)
def abV {pl:Place} {m j:Nat} {b:Bool} {n0 i c:Nat} {x:D} {u:Value} (hi:i < n0) (h:bt w L (pl.sub i c) x u) :
  bt w (cT (kA pl m j (lX b n0)) L) ((⟨.h m,j,[]⟩:Place).sub i c) x u:=by
 have:=bt.move (w':=w) (L':=cT (kA pl m j (lX b n0)) L) (λq=>⟨.h m,j,pl.rest q⟩) (λq=>bM pl q/\∃r,pl.rest q=(i,c)::r)
  (λq i' c' h=>⟨h.1.sub i' c',by obtain⟨r,hr⟩:=h.2;rw[h.1.Uj,hr];exact⟨_,rfl⟩⟩)
  (λq i c h=>by rw[h.1.Uj];rfl) (λB hB=>⟨jP.2 hB,rfl⟩)
  (λB q o hq hL=>⟨gO hL (Ji hq.1 (by obtain⟨r,hr⟩:=hq.2;rw[hr];simp[lX,hi])),rfl⟩) h ⟨(bM.refl pl).sub i c,[],adB pl i c⟩
 rwa[adB] at this
def arZ {pl:Place} (hp:pl.k.aT=true) {m j:Nat} {b:Bool} {n0 i c:Nat} {x:D} {u:Value} (hi:¬ i < n0) (h:bt w L ((⟨.h m,j,[]⟩:Place).sub i c) x u) :
  bt w (cT (kA pl m j (lX b n0)) L) ((⟨.h m,j,[]⟩:Place).sub i c) x u:=by
 refine bt.move (w':=w) (L':=cT (kA pl m j (lX b n0)) L) id (λq=>(q.k = .h m/\q.j=j)/\∃r,q.p=(i,c)::r)
  (λq i' c' h=>⟨h.1,by obtain⟨r,hr⟩:=h.2;exact⟨r++[(i',c')],by simp[Place.sub,hr]⟩⟩)
  (λ_ _ _ _=>rfl) (λB hB=>⟨jP.2 hB,rfl⟩)
  (λB q o hq hL=>⟨gO hL (XW (λhu=>?_) hq.1 (by obtain⟨r,hr⟩:=hq.2;rw[hr];simp[lX,hi])),rfl⟩) h ⟨⟨rfl,rfl⟩,[],rfl⟩
 rw[<-hu.key.1,hq.1.1] at hp;simp[Key.aT] at hp
def cf.apD (M:cf nm N S0 w0 L0 ws a w L) {m j:Nat} {pl:Place} (hk:pl.k.aT=true) {sz:Nat} {rows:List (List D)} {v:Value} {x:D}
  (hE:((S0.ai ws).E pl.k).cells[pl.j]? = some (.d x)) (hn:ek x pl.p=some (.sl .own sz rows)) (hV:BL w0 L0 pl sz 0 rows.length v)
  (hr:rows≠[]) :
  ∃L',Out nm N S0 w0 L0 ws (nS ws pl.k (wE ((S0.ai ws).E pl.k) pl x)) a w L L' (λq=>¬ (q.k = .h m/\q.j=j)) m/\
   aC nm w L' (S0.ai (nS ws pl.k (wE ((S0.ai ws).E pl.k) pl x))).γ (.h m) j (.d (.sl .own sz rows)) v:=by
 refine⟨_,M.FK hk (lX true rows.length) hE hn,.d ?_⟩;obtain⟨u,hu⟩:=M.BS hk hE hn;rcases hV with⟨h0,a0,rfl⟩ | ⟨B,o,cap,cur,e,fz,rfl,aY,uB,hB0,c6,hle,dU,_⟩
 ·exact absurd (p7.1 h0) hr
 ·have hL:L B=some (.row pl o):=by
   rcases hu.nR with⟨h1,_⟩ | ⟨B',o',zH,ei,e',xS,val,_,_,fY,_⟩
   ·exact absurd h1 hr
   ·have ZE:=M.rows B' pl o' hk fY;obtain rfl:=M.wC B' B pl o' o ZE uB;obtain rfl:o'=o:=by rw[ZE] at uB;simpa using uB
    omega
  have hB:=(M.heap B _ uB).trans hB0;simp at dU ⊢;have pF:=by
   have:=gO hL (Ji (m:=m) (j:=j) (jQ:=lX true rows.length) (bM.refl pl) (by rw[Ba];rfl));rwa[Ba] at this
  rcases hu.nR with⟨rfl,_⟩ | ⟨B',o',zH,ei,e',xS,val,_,_,fY,dH,_,fO,QX,RM,cH,hr,dW⟩
  ·exact absurd rfl hr
  ·obtain rfl:=M.rel.ey B' B pl o' o fY hL;obtain rfl:o'=o:=by rw[fY] at hL;simpa using hL
   obtain⟨rfl,rfl,rfl⟩:ei=cur/\e'=e/\xS=fz:=by rw[dH] at hB;simpa using hB
   refine .own val aY pF hB c6 fO hle dU cH ?_ dW;intro i c x hx;exact abV (og fO hx).1 (hr i c x hx)
def UB (M:cf nm N S0 w0 L0 ws a w L) {m j:Nat} {pl:Place} {g aa sz:Nat} {rows:List (List D)} {v:Value}
  (hc:iS nm w0 L0 S0.γ w L (S0.ai ws).γ m j (.cY pl g aa sz rows) v) {r:C×List Wr}
  (hr:(settle ws pl g aa sz rows).run S0=some r) :
  ∃L',Out nm N S0 w0 L0 ws r.2 a w L L' (λq=>¬ (q.k = .h m/\q.j=j)) m/\aC nm w L' (S0.ai r.2).γ (.h m) j r.1 v:=by
 simp only[settle,Q.run_bind] at hr;cases ho:(jO ws pl g sz).run S0 with
 | none=>simp[ho] at hr
 | some e=>
  obtain⟨e,x,dJ⟩:=e;obtain⟨rfl,hg,hE,hn⟩:=u4 ho;simp only[ho,Option.bind_some,Q.run_bind,Q.w9,Q.pW] at hr;cases rh:((S0.get (.a pl.k)).g==aa&&fresh ws pl.k) with
  | false=>simp[rh] at hr
  | true=>
   simp only[rh,dj,Option.bind_some,Q.run_pure,au] at hr;subst hr;simp at rh;obtain⟨g1,g2,_⟩:=JO (S:=S0) rh.2;cases hc with
   | cY hv hh Ri akQ hV=>
    have hA:=hV (by omega) (by rw[g2];exact rh.1.symm);rcases hA with⟨rfl,a0,rfl⟩ | ⟨B,o,cap,cur,e,fz,n0,val,rfl,aY,hL,hB,c6,fO,eC,dU,cH,hd,dW⟩
    ·exact⟨_,M.FK hh (lX true 0) hE hn,.d .jg⟩
    ·have j9:∀(b:Bool) i c x,cellOf rows i c=some x->bt w (cT (kA pl m j (lX b n0)) L) ((⟨.h m,j,[]⟩:Place).sub i c) x (val i c):=by
      intro b i c x hx;have h0:=hd i c x hx;by_cases hi:i < n0
      ·rw[aP hi] at h0;exact abV hi h0
      ·rw[aI hi] at h0;exact arZ hh hi h0
     rcases hL with hL | hL
     ·have pF:=by
       have:=gO hL (Ji (m:=m) (j:=j) (jQ:=lX true n0) (bM.refl pl) (by rw[Ba];rfl));rwa[Ba] at this
      exact⟨_,M.FK hh (lX true n0) hE hn,.d (.own val aY pF hB c6 fO eC dU cH (j9 true) dW)⟩
     ·have pF:cT (kA pl m j (lX false n0)) L B=some (.row ⟨.h m,j,[]⟩ o):=by
       refine gO hL (XW (λhu=>?_) ⟨rfl,rfl⟩ rfl);have:=hu.key.1;rw[<-this] at hh;simp[Key.aT] at hh
      exact⟨_,M.FK hh (lX false n0) hE hn,.d (.own val aY pF hB c6 fO eC dU cH (j9 false) dW)⟩
def UP (M:cf nm N S0 w0 L0 ws a w L) {m j:Nat} {P:Place} {c:C} {v:Value} (hc:iS nm w0 L0 S0.γ w L (S0.ai ws).γ m j c v) {r:C×List Wr}
  (hr:(oV ws P c).run S0=some r) :
  ∃L',Out nm N S0 w0 L0 ws r.2 a w L L' (λq=>¬ (q.k = .h m/\q.j=j)) m/\aC nm w L' (S0.ai r.2).γ (.h m) j r.1 v:=by
 cases c with
 | cY pl g aa sz rows=>
  simp only[oV] at hr;split at hr
  ·exact UB M hc hr
  ·exact vh M hc hr
 | _=>exact vh M hc hr
def NC (M:cf nm N S0 w0 L0 ws a w L) {m j:Nat} {P:Place} {c:C} {v:Value} (hc:iS nm w0 L0 S0.γ w L (S0.ai ws).γ m j c v) {r:C×List Wr}
  (hr:(oW ws P c).run S0=some r) :
  ∃L',Out nm N S0 w0 L0 ws r.2 a w L L' (λq=>¬ (q.k = .h m/\q.j=j)) m/\aC nm w L' (S0.ai r.2).γ (.h m) j r.1 v:=by
 cases c with
 | cY pl g aa sz rows=>
  simp only[oW] at hr;split at hr
  ·exact UB M hc hr
  ·exact UP M hc hr
 | view pl g sz off len=>
  simp only[oW,Q.run_bind] at hr;cases ho:(jO ws pl g sz).run S0 with
  | none=>simp[ho] at hr
  | some e=>
   obtain⟨e,x,rows⟩:=e;obtain⟨rfl,hg,hE,hn⟩:=u4 ho;simp only[ho,Option.bind_some,Q.run_ite,Q.Ut] at hr;split at hr
   ·rename_i iG;simp at iG;obtain⟨_,⟨h1,h2⟩,h3⟩:=iG;simp at hr;subst hr;cases hc with
    | view hv hh Ri hV=>
     refine M.apD hh hE hn (by have:=hV hg;rwa[h1,h2] at this) ?_;intro he;simp[he] at h3
   ·exact vh M hc hr
 | _=>exact vh M hc hr
def NB {m:Nat}:∀(cs:List C) {ws:List Wr} {L:aw} (M:cf nm N S0 w0 L0 ws a w L) (j0:Nat) (vs:Nat->Value)
  (hc:∀j c,cs[j]? = some c->iS nm w0 L0 S0.γ w L (S0.ai ws).γ m (j0+j) c (vs (j0+j))) {r:List C×List Wr} (hr:(tO ws cs).run S0=some r),
  ∃L',Out nm N S0 w0 L0 ws r.2 a w L L' (λq=>¬ (q.k = .h m/\j0<=q.j)) m/\r.1.length=cs.length/\
   ∀j c,r.1[j]? = some c->aC nm w L' (S0.ai r.2).γ (.h m) (j0+j) c (vs (j0+j))
 | [],ws,L,M,j0,vs,hc,r,hr=>by
  simp only[tO,Q.run_pure,au] at hr;subst hr;exact⟨L,Out.refl M _ m,rfl,λj c h=>by simp at h⟩
 | c::cs,ws,L,M,j0,vs,hc,r,hr=>by
  simp only[tO,Q.run_bind] at hr;cases h1:(oW ws ⟨.h 0,0,[]⟩ c).run S0 with
  | none=>simp[h1] at hr
  | some r1=>
   obtain⟨c1,eS⟩:=r1;simp only[h1,Option.bind_some,Q.run_bind] at hr;cases h2:(tO eS cs).run S0 with
   | none=>simp[h2] at hr
   | some r2=>
    simp only[h2,Option.bind_some,Q.run_pure,au] at hr;subst hr;obtain⟨L1,O1,R1⟩:=NC M (by simpa using hc 0 c rfl) h1
    obtain⟨L2, O2, hl, R2⟩ := NB cs O1.mid (j0 + 1) vs (λj c h => by
      have := hc (j + 1) c (by simpa using h)
      have := this.keep O1.keep (λp => by simp)
      rwa[show j0 + 1 + j = j0 + (j + 1) by omega]) h2
    refine⟨L2,(O1.weaken ?_).trans (O2.weaken ?_),by simp[hl],?_⟩
    ·intro q hq h;exact hq ⟨h.1,by omega⟩
    ·intro q hq h;exact hq ⟨h.1,by omega⟩
    ·intro j c hj;cases j with
     | zero=>
      simp at hj;subst hj;exact R1.keep O2.keep (λp=>by simp)
     | succ j=>
      have:=R2 j c (by simpa using hj);rwa[show j0+1+j=j0+(j+1) by omega] at this
def aqz {mv:Bool} {m:Nat} (cs:List C) (M:cf nm N S0 w0 L0 ws a w L) (j0:Nat) (vs:Nat->Value)
  (hc:∀j c,cs[j]? = some c->iS nm w0 L0 S0.γ w L (S0.ai ws).γ m (j0+j) c (vs (j0+j))) {r:List C×List Wr} (hr:(Ea mv ws cs).run S0=some r) :
  ∃L',Out nm N S0 w0 L0 ws r.2 a w L L' (λq=>¬ (q.k = .h m/\j0<=q.j)) m/\r.1.length=cs.length/\
   ∀j c,r.1[j]? = some c->aC nm w L' (S0.ai r.2).γ (.h m) (j0+j) c (vs (j0+j)):=by
 unfold Ea at hr;split at hr
 ·exact NB cs M j0 vs hc hr
 ·exact NA cs M j0 vs hc hr
end
end
section
section
variable {nm:FuncId->Option Nat} {N:Nat} {S0:St} {w0:World} {L0:aw} {ws:List Wr} {a:Act} {w:World} {L:aw}
def oX (k:Key) (m j:Nat):Place->Option Place:=λq=>
 if q.k = .h m/\q.j=j then some ⟨k,0,q.p⟩ else if q.k=k then none else some q
def aeW {k:Key} {m j:Nat} {q:Place} (h1:¬ (q.k = .h m/\q.j=j)) (h2:q.k≠k):oX k m j q=some q:=by
 simp only[oX];rw[aI h1,aI h2]
def asf {k:Key} {m j:Nat} {q:Place} (h1:q.k = .h m/\q.j=j):oX k m j q=some ⟨k,0,q.p⟩:=by
 simp only[oX];rw[aP h1]
def asd {k:Key} {m j:Nat} {q t:Place} (h:oX k m j q=some t) (h2:t.k≠k):q=t/\¬ (q.k = .h m/\q.j=j):=by
 simp only[oX] at h;split at h
 ·simp only[au] at h;exact absurd (by rw[<-h]) h2
 ·rename_i h1;split at h
  ·cases h
  ·simp only[au] at h;exact⟨h,h1⟩
def ase {k:Key} {m j:Nat} {q q' t:Place} (h1:oX k m j q=some t) (h2:oX k m j q'=some t):q=q':=by
 simp only[oX] at h1 h2;split at h1
 ·rename_i a1;simp only[au] at h1;split at h2
  ·rename_i a2;simp only[au] at h2;rw[<-h1] at h2;simp only[Place.mk.injEq,nD] at h2;cases q;cases q';simp_all
  ·split at h2
   ·cases h2
   ·rename_i a3;simp only[au] at h2;exact absurd (by rw[h2,<-h1]) a3
 ·split at h1
  ·cases h1
  ·rename_i a3;simp only[au] at h1;split at h2
   ·simp only[au] at h2;exact absurd (by rw[h1,<-h2]) a3
   ·split at h2
    ·cases h2
    ·simp only[au] at h2;rw[h1,h2]
def Rel.Xf {S:St} (h:Rel nm N S a w L) {m j:Nat} {r:aJ} {B o c:Nat} {x:C} {v:Value} (hB:L B=some (.box r o)) (hc:c < cr (S.E (.r r)))
  (hr:r.iT=false) (hx:aC nm w L S.γ (.h m) j x v) :
  ∃L',Rel nm N (S.wr { k:=.b r c,v:=.one x }) a (w.setCell ⟨B,o+c,none⟩ v) L'/\
   pg w (w.setCell ⟨B,o+c,none⟩ v) L L' S.γ (S.wr { k:=.b r c,v:=.one x }).γ (λq=>¬ (q.k = .h m/\q.j=j))/\
   dc w (w.setCell ⟨B,o+c,none⟩ v) L L'/\L' B=some (.box r o)/\(∀B q o,q.k.aT=false->L' B=some (.row q o)->L B=some (.row q o)):=by
 obtain⟨B',o',cur,e,fz,h1,h2,h3,h4⟩:=h.room r hr (by omega);obtain rfl:=h.fy B' B r o' o h1 hB;obtain rfl:o'=o:=by rw[h1] at hB;simpa using hB
 have aD:∀{B2 l},L B2=some l->(∀r o,l≠.box r o)->(w.setCell ⟨B',o'+c,none⟩ v).heap[B2]? = w.heap[B2]?:=by
  intro B2 l hl s6;refine pH _ _ _ _ ?_;rintro rfl;rw[hB] at hl;simp only[au] at hl;exact s6 _ _ hl.symm
 have aah:∀{q:Place},q.k.aT=true->q.k≠.b r c->oX (.b r c) m j q=some q:=λhq hk=>
  aeW (λh=>by rw[h.1] at hq;simp[Key.aT] at hq) hk
 have bF:Step w (w.setCell ⟨B',o'+c,none⟩ v) L (cT (oX (.b r c) m j) L) S.γ (S.wr { k:=.b r c,v:=.one x }).γ:=by
  refine⟨λB hB=>⟨jP.2 hB,aD hB (by simp)⟩,S.qa _,?_,λB q o _ _ _ hB=>aD hB (by simp),λB r o _ hB=>jw.2 hB⟩;intro B q o hq hγ hL;rw[ET] at hγ;exact⟨gO hL (aah hq (Fb hγ)),λcur e fz hB=>⟨cur,(aD hL (by simp)).trans hB,rfl⟩⟩
 refine⟨cT (oX (.b r c) m j) L,?_,⟨bF,?_⟩,?_,jw.2 hB,?_⟩
 ·refine h.write { k:=.b r c,v:=.one x } rfl h.defers (λ_ _=>rfl) bF ?_ ?_ ?_ ?_ ?_ ?_
  ·intro B q o hq Gt hL;exact⟨gO hL (aah Gt hq),aD hL (by simp)⟩
  ·intro B2 r2 o2 _ hL;refine⟨jw.2 hL,λiF e2 lu qZ=>?_⟩;by_cases he:B2=B'
   ·subst he;rw[hB] at hL;simp only[au,db.box.injEq] at hL;obtain⟨rfl,rfl⟩:=hL;refine⟨iF.setIfInBounds (o'+c) v,xZ w B2 _ v qZ,by simp,?_⟩;intro c' ml;rw[By];intro e;exact ml (by rw[show c=c' by omega])
   ·exact⟨iF,(pH _ _ _ _ he).trans qZ,rfl,λ_ _=>rfl⟩
  ·refine⟨x,rfl,λgp=>⟨hc,?_⟩⟩;have lA:aC nm (w.setCell ⟨B',o'+c,none⟩ v) (cT (oX (.b r c) m j) L) (S.wr { k:=.b r c,v:=.one x }).γ (.b r c) 0 x v:=by
    refine hx.step bF ?_;intro B q o h1 h2 hL;exact⟨gO hL (asf ⟨h1,h2⟩),aD hL (by simp)⟩
   have hex:∃B o cur e fz v',cT (oX (.b r c) m j) L B=some (.box r o)/\(w.setCell ⟨B',o'+c,none⟩ v).heap[B]? = some (.cells cur e fz)/\jA cur.size fz/\cur[o+c]? = some v'/\
     aC nm (w.setCell ⟨B',o'+c,none⟩ v) (cT (oX (.b r c) m j) L) (S.wr { k:=.b r c,v:=.one x }).γ (.b r c) 0 x v'/\lK x B o c e cur.size v':=by
    refine⟨B',o',_,e,fz,v,jw.2 hB,xZ w B' _ v h2,by simpa using h3,?_,lA,.of hx.Hs⟩;simp only[zj,dj];rw[aP (by omega)]
   cases r with
   | g i=>exact⟨v,lA⟩
   | e i=>exact hex
   | l i=>exact hex
  ·intro B2 l hl;obtain⟨l0,h0⟩:=HU hl;have:=h.fx B2 l0 h0;simpa using this
  ·exact HV h.ey (λq q' t B B' o o' h1 h2 _ _=>ase h1 h2)
  ·intro B1 B2 r1 o1 o2 g1 g2;exact h.fy B1 B2 r1 o1 o2 (jw.1 g1) (jw.1 g2)
 ·intro B q o hq hK hL;refine⟨gO hL (aeW hK (λe=>?_)),aD hL (by simp)⟩;rw[e] at hq;simp[Key.aT] at hq
 ·refine⟨rfl,rfl,rfl,by simp,λB hB=>⟨jP.2 hB,aD hB (by simp)⟩,?_,λB i o hB=>jw.2 hB⟩;intro B2 _ hn;refine⟨Ng hn,pH _ _ _ _ ?_⟩;rintro rfl;rw[hB] at hn;cases hn
 ·intro B2 q o hq hL;obtain⟨q0,g1,g2⟩:=oR hL;have:=(asd g2 (λe=>by rw[e] at hq;simp[Key.aT] at hq)).1;rwa[this] at g1
def pg.trans {w1 w2 w3:World} {L1 L2 L3:aw} {γ1 γ2 γ3:Key->Nat} {K:Place->Prop} (h:pg w1 w2 L1 L2 γ1 γ2 K) (k:pg w2 w3 L2 L3 γ2 γ3 K):pg w1 w3 L1 L3 γ1 γ3 K:=
 ⟨h.cU.trans k.cU,λB q o h1 h2 h3=>⟨(k.h B q o h1 h2 (h.h B q o h1 h2 h3).1).1,(k.h B q o h1 h2 (h.h B q o h1 h2 h3).1).2.trans (h.h B q o h1 h2 h3).2⟩⟩
def pg.weaken {w1 w2:World} {L1 L2:aw} {γ1 γ2:Key->Nat} {K K':Place->Prop} (h:pg w1 w2 L1 L2 γ1 γ2 K) (hK:∀q,K' q->K q):pg w1 w2 L1 L2 γ1 γ2 K':=
 ⟨h.cU,λB q o h1 h2 h3=>h.h B q o h1 (hK q h2) h3⟩
def Rel.Xg {m:Nat} {r:aJ} (hr:r.iT=false) {B o:Nat}:∀(cs:List C) (vs:List Value) (j0 c0:Nat) {S:St} {ws:List Wr} {w:World} {L:aw} (h:Rel nm N (S.ai ws) a w L)
  (hB:L B=some (.box r o)) (hl:cs.length=vs.length) (hc:c0+cs.length<=cr ((S.ai ws).E (.r r)))
  (hx:∀j x v,cs[j]? = some x->vs[j]? = some v->aC nm w L (S.ai ws).γ (.h m) (j0+j) x v),
  ∃L',Rel nm N (S.ai (gC r c0 cs ws)) a (w.setCells B (o+c0) vs) L'/\dc w (w.setCells B (o+c0) vs) L L'/\L' B=some (.box r o)/\
   (∀B q o,q.k.aT=false->L' B=some (.row q o)->L B=some (.row q o))
 | [],vs,j0,c0,S,ws,w,L,h,hB,hl,hc,hx=>by
  have:vs=[]:=by simpa using hl.symm
  subst this;exact⟨L,h,dc.refl _ _,hB,λ_ _ _ _ h=>h⟩
 | x::cs,[],j0,c0,S,ws,w,L,h,hB,hl,hc,hx=>by simp at hl
 | x::cs,v::vs,j0,c0,S,ws,w,L,h,hB,hl,hc,hx=>by
  simp only[jl] at hc hl;obtain⟨L1,h1,k1,m1,b1,f1⟩:=h.Xf hB (c:=c0) (by omega) hr (hx 0 x v rfl rfl);have hE:((S.ai ({ k:=.b r c0,v:=.one x } :: ws)).E (.r r))=(S.ai ws).E (.r r):=by
   simp only[St.ai,St.il];simp
  obtain⟨L2, h2, m2, b2, f2⟩ := Rel.Xg hr cs vs (j0 + 1) (c0 + 1) (S := S) (ws := { k := .b r c0, v := .one x } :: ws) h1 b1 (by omega) (by rw[hE]; omega) (by
    intro j y u hy hu
    have := (hx (j + 1) y u (by simpa using hy) (by simpa using hu)).keep k1 (λp => by simp)
    rwa[show j0 + 1 + j = j0 + (j + 1) by omega])
  refine⟨L2,h2,m1.trans m2,b2,λB q o hq hL=>f1 B q o hq (f2 B q o hq hL)⟩
def Ca (S:St) (r:aJ):∀(cs:List C) (c0:Nat) (ws:List Wr) (k:Key),
  (∀c x,k = .b r (c0+c)->cs[c]? = some x->(S.ai (gC r c0 cs ws)).E k = .one x)/\
  ((∀c,c < cs.length->k≠.b r (c0+c))->(S.ai (gC r c0 cs ws)).E k=(S.ai ws).E k/\(S.ai (gC r c0 cs ws)).γ k=(S.ai ws).γ k)/\
  (∀c,c < cs.length->k = .b r (c0+c)->(S.ai ws).γ k < (S.ai (gC r c0 cs ws)).γ k)/\(S.ai ws).γ k<=(S.ai (gC r c0 cs ws)).γ k
 | [],c0,ws,k=>⟨λc x _ h=>by simp at h,λ_=>⟨rfl,rfl⟩,λc h=>by simp at h,cp _⟩
 | x::cs,c0,ws,k=>by
  obtain⟨h1,h2,h3,h4⟩:=Ca S r cs (c0+1) ({ k:=.b r c0,v:=.one x } :: ws) k;have hle:(S.ai ws).γ k<=(S.ai ({ k:=.b r c0,v:=.one x } :: ws)).γ k:=St.qa _ _ k;simp only[gC];refine⟨?_,?_,?_,iD hle h4⟩
  ·intro c y hk hy;cases c with
   | zero=>
    simp only[qQ,au] at hy;subst hy;rw[(h2 (λc' _ e=>by rw[hk] at e;simp only[Key.b.injEq,nD] at e;omega)).1];simp only[St.ai,St.il,hk,mN,dj]
   | succ c=>exact h1 c y (by rw[hk,show c0+(c+1)=c0+1+c by omega]) (by simpa using hy)
  ·intro aD;obtain⟨g1,g2⟩:=h2 (λc hc e=>aD (c+1) (by simpa using hc) (by rw[e,show c0+(c+1)=c0+1+c by omega]));have h0:(Key.b r c0)≠k:=λe=>aD 0 (by simp) (by rw[<-e];rfl)
   rw[g1,g2];simp only[St.ai,St.il,St.jX,h0,eX];trivial
  ·intro c hc hk;cases c with
   | zero=>
    refine IC ?_ h4;simp only[St.ai,St.jX,hk,mN,dj];simp
   | succ c=>
    exact VR hle (h3 c (by simpa using hc) (by rw[hk,show c0+(c+1)=c0+1+c by omega]))
def xg (r:aJ) (n m:Nat):Place->Option Place:=λq=>
 if q.k = .h m then(if q.j < n then some ⟨.b r q.j,0,q.p⟩ else none)
 else match q.k with
  | .b r' c=>if r'=r/\c < n then none else some q
  | .s _=>some q
  | _=>none
def U0 {r:aJ} {n m:Nat} {q t:Place} (h:xg r n m q=some t):(q.k = .h m/\q.j < n/\t=⟨.b r q.j,0,q.p⟩)\/(q.k.aT=true/\t=q/\∀c,c < n->q.k≠.b r c):=by
 unfold xg at h;split at h
 ·rename_i h1;split at h
  ·rename_i h2;simp only[au] at h;exact .inl ⟨h1,h2,h.symm⟩
  ·cases h
 ·rename_i h1;split at h
  ·rename_i r' c hk;split at h
   ·cases h
   ·rename_i h2;simp only[au] at h;refine .inr ⟨by rw[hk];rfl,h.symm,?_⟩;intro c' ml e;rw[hk] at e;simp only[Key.b.injEq] at e;exact h2 ⟨e.1,by omega⟩
  ·rename_i i hk;simp only[au] at h;exact .inr ⟨by rw[hk];rfl,h.symm,λc _ e=>by rw[hk] at e;cases e⟩
  ·cases h
def U1 {r:aJ} {n m:Nat} {q:Place} (h:q.k.aT=true) (hn:∀c,c < n->q.k≠.b r c):xg r n m q=some q:=by
 unfold xg;rw[aI (λe=>by rw[e] at h;simp[Key.aT] at h)];obtain⟨k,i,p⟩:=q;cases k with
 | s i=>rfl
 | b r' c=>
  simp only;rw[aI];rintro⟨rfl,hc⟩;exact hn c hc rfl
 | _=>simp[Key.aT] at h
def asc {r:aJ} {n m:Nat} {q:Place} (h:q.k = .h m) (hj:q.j < n):xg r n m q=some ⟨.b r q.j,0,q.p⟩:=by
 unfold xg;rw[aP h,aP hj]
def lM (r:aJ) (n m:Nat) (w:World) (L:aw):aw:=λB=>
 if B=w.heap.size then some (.box r 0) else
 match L B with
 | some (.box r' o)=>if r'=r then none else some (.box r' o)
 | _=>cT (xg r n m) L B
def zE {r:aJ} {n m:Nat}:lM r n m w L w.heap.size=some (.box r 0):=by simp[lM]
def I6 {r:aJ} {n m B o:Nat} {q q':Place} (aD:B≠w.heap.size) (h:L B=some (.row q o)) (hf:xg r n m q=some q'):lM r n m w L B=some (.row q' o):=by
 unfold lM;rw[aI aD];simp only[h];exact gO h hf
def Xd {r:aJ} {n m B:Nat} (aD:B≠w.heap.size) (h:L B=some .bg):lM r n m w L B=some .bg:=by
 unfold lM;rw[aI aD];simp only[h];exact jP.2 h
def agw {r:aJ} {n m B:Nat} (aD:B≠w.heap.size) (h:L B=none):lM r n m w L B=none:=by
 unfold lM;rw[aI aD];simp only[h];exact Ng h
def I5 {r:aJ} {n m B o:Nat} {r':aJ} (aD:B≠w.heap.size) (h:L B=some (.box r' o)) (hr:r'≠r):lM r n m w L B=some (.box r' o):=by
 unfold lM;rw[aI aD];simp only[h,hr,eX]
def zD {r:aJ} {n m B:Nat} {l:db} (h:lM r n m w L B=some l):(B=w.heap.size/\l = .box r 0)\/
  (B≠w.heap.size/\((l = .bg/\L B=some .bg)\/(∃r' o,l = .box r' o/\r'≠r/\L B=some (.box r' o))\/∃q q' o,l = .row q' o/\L B=some (.row q o)/\xg r n m q=some q')):=by
 unfold lM at h;split at h
 ·rename_i he;simp only[au] at h;exact .inl ⟨he,h.symm⟩
 ·rename_i he;refine .inr ⟨he,?_⟩;split at h
  ·rename_i r' o hL;split at h
   ·cases h
   ·rename_i hr;simp only[au] at h;exact .inr (.inl ⟨r',o,h.symm,hr,hL⟩)
  ·rename_i s6;cases l with
   | bg=>exact .inl ⟨rfl,jP.1 h⟩
   | row q o=>obtain⟨q0,g1,g2⟩:=oR h;exact .inr (.inr ⟨q0,q,o,rfl,g1,g2⟩)
   | box r' o=>exact absurd (jw.1 h) (s6 r' o)
def qU (n:Nat):cr (fR n)=n:=by simp[cr,fR]
def Rel.tq {S:St} {ws:List Wr} (h:Rel nm N (S.ai ws) a w L) {m:Nat} {r:aJ} {cs:List C} {vs:Array Value} {e:TypeId} (hr:r.iT=false) (yl:∀i,r≠.e i)
  (hl:cs.length=vs.size) (hn:cr ((S.ai ws).E (.r r))=0\/cr ((S.ai ws).E (.r r))=cs.length)
  (hx:∀(j:Nat) x v,cs[j]? = some x->vs[j]? = some v->aC nm w L (S.ai ws).γ (.h m) j x v) :
  Rel nm N (S.ai (gC r 0 cs ({ k:=.r r,v:=fR cs.length } :: ws))) a (w.alloc (.cells vs e)) (lM r cs.length m w L)/\
   dc w (w.alloc (.cells vs e)) L (lM r cs.length m w L)/\eA (lM r cs.length m w L):=by
 have C3:=h.fx.new;have af:∀{B l},L B=some l->B≠w.heap.size:=λ{B l} hB e=>by rw[e,C3] at hB;cases hB
 have ej:∀{B l},L B=some l->(w.alloc (.cells vs e)).heap[B]? = w.heap[B]?:=λhB=>mY w _ (af hB)
 have hw:=λk=>Ca S r cs 0 ({ k:=.r r,v:=fR cs.length } :: ws) k
 have Ac:∀r',(S.ai (gC r 0 cs ({ k:=.r r,v:=fR cs.length } :: ws))).E (.r r')=if r=r' then fR cs.length else(S.ai ws).E (.r r'):=by
  intro r';rw[((hw (.r r')).2.1 (λc _ e=>by cases e)).1];simp only[St.ai,St.il,Key.r.injEq]
 have hEs:∀i,(S.ai (gC r 0 cs ({ k:=.r r,v:=fR cs.length } :: ws))).E (.s i)=(S.ai ws).E (.s i):=by
  intro i;rw[((hw (.s i)).2.1 (λc _ e=>by cases e)).1];simp[St.ai,St.il]
 have JU:∀r' c,(r'≠r\/cs.length<=c)->(S.ai (gC r 0 cs ({ k:=.r r,v:=fR cs.length } :: ws))).E (.b r' c)=(S.ai ws).E (.b r' c):=by
  intro r' c hc;rw[((hw (.b r' c)).2.1 (λc' h1 e=>by simp only[Key.b.injEq] at e;rcases hc with hc | hc;exact hc e.1;omega)).1];simp[St.ai,St.il]
 have alH:∀k,(S.ai ws).γ k<=(S.ai (gC r 0 cs ({ k:=.r r,v:=fR cs.length } :: ws))).γ k:=λk=>
  iD (St.qa (S.ai ws) { k:=.r r,v:=fR cs.length } k) (hw k).2.2.2
 have hγb:∀c,c < cs.length->(S.ai ws).γ (.b r c) < (S.ai (gC r 0 cs ({ k:=.r r,v:=fR cs.length } :: ws))).γ (.b r c):=λc hc=>
  VR (St.qa (S.ai ws) { k:=.r r,v:=fR cs.length } (.b r c)) ((hw (.b r c)).2.2.1 c hc (by simp))
 have hγr:(S.ai ws).γ (.r r) < (S.ai (gC r 0 cs ({ k:=.r r,v:=fR cs.length } :: ws))).γ (.r r):=by
  refine IC ?_ (hw (.r r)).2.2.2;simp only[St.ai,St.jX,dj];simp
 have bF:Step w (w.alloc (.cells vs e)) L (lM r cs.length m w L) (S.ai ws).γ (S.ai (gC r 0 cs ({ k:=.r r,v:=fR cs.length } :: ws))).γ:=by
  refine⟨λB hB=>⟨Xd (af hB) hB,ej hB⟩,alH,?_,λB q o _ _ _ hB=>ej hB,?_⟩
  ·intro B q o hq hγ hL;refine⟨I6 (af hL) hL (U1 hq ?_),λcur e fz hc=>⟨cur,(ej hL).trans hc,rfl⟩⟩;intro c hc e;rw[e] at hγ;exact absurd hγ (Nat.ne_of_gt (hγb c hc))
  ·intro B r' o hγ hL;refine I5 (af hL) hL ?_;rintro rfl;exact absurd hγ (Nat.ne_of_gt hγr)
 refine⟨⟨h.size,h.defers,?_,?_,?_,?_,?_,?_,?_,?_⟩,?_,?_⟩
 ·intro i;rw[hEs];refine(h.slot i).step bF ?_;intro B q o hq hL;refine⟨?_,ej hL⟩;rw[<-hq,Place.mf];exact I6 (af hL) hL (U1 (by rw[hq];rfl) (λc _ e=>by rw[hq] at e;cases e))
 ·intro r' c x hE gp;by_cases hc:r'=r/\c < cs.length
  ·obtain⟨rfl,hc⟩:=hc;have oG:=(hw (.b r' c)).1 c cs[c] (by simp) (by simp[hc]);rw[hE] at oG;simp only[V.one.injEq] at oG;have lA:aC nm (w.alloc (.cells vs e)) (lM r' cs.length m w L) (S.ai (gC r' 0 cs ({ k:=.r r',v:=fR cs.length } :: ws))).γ (.b r' c) 0 x (vs[c]'(by omega)):=by
    refine(hx c x vs[c] (by rw[oG];simp[hc]) (by simp[<-hl,hc])).step bF ?_;intro B q o h1 h2 hL;refine⟨?_,ej hL⟩;have:=I6 (af hL) hL (asc (r:=r') (n:=cs.length) h1 (by rw[h2];exact hc));rwa[h2] at this
   have hex:∃B o cur e' fz v',lM r' cs.length m w L B=some (.box r' o)/\(w.alloc (.cells vs e)).heap[B]? = some (.cells cur e' fz)/\jA cur.size fz/\cur[o+c]? = some v'/\
     aC nm (w.alloc (.cells vs e)) (lM r' cs.length m w L) (S.ai (gC r' 0 cs ({ k:=.r r',v:=fR cs.length } :: ws))).γ (.b r' c) 0 x v'/\lK x B o c e' cur.size v':=
    ⟨w.heap.size,0,vs,e,(0,0),_,zE,ox w _,λj _=>by simp,by simp[<-hl,hc],lA,.of (hx c x vs[c] (by rw[oG];simp[hc]) (by simp[<-hl,hc])).Hs⟩
   cases r' with
   | g i=>simp[aJ.iT] at hr
   | e i=>exact hex
   | l i=>exact hex
  ·rw[JU r' c (by by_cases h1:r'=r<;>simp_all)] at hE;by_cases dV:r'=r
   ·subst dV;have aU:cs.length<=c:=by simpa using hc
    have:=h.bound r' c (by rcases hn with hn | hn<;>rw[hn]<;>omega);rw[this] at hE;simp only[V.one.injEq] at hE;exact absurd hE.symm gp
   ·refine(h.cell r' c x hE gp).step bF ?_ ?_
    ·intro B q o hq hL;exact⟨I6 (af hL) hL (U1 (by rw[hq];rfl) (λc' _ e=>by rw[hq] at e;simp only[Key.b.injEq] at e;exact dV e.1)),ej hL⟩
    ·intro B o hL;exact⟨I5 (af hL) hL dV,λcur e fz hc=>⟨cur,(ej hL).trans hc,rfl,rfl⟩⟩
 ·intro r' c;by_cases hc:r'=r/\c < cs.length
  ·obtain⟨rfl,hc⟩:=hc;exact⟨cs[c],(hw (.b r' c)).1 c cs[c] (by simp) (by simp[hc])⟩
  ·rw[JU r' c (by by_cases h1:r'=r<;>simp_all)];exact h.kx r' c
 ·intro r' c hc;rw[Ac] at hc;by_cases dV:r=r'
  ·subst dV;simp only[dj,qU] at hc;rw[JU r c (.inr hc)];exact h.bound r c (by rcases hn with hn | hn<;>rw[hn]<;>omega)
  ·rw[aI dV] at hc;rw[JU r' c (.inl (λe=>dV e.symm))];exact h.bound r' c hc
 ·intro r' hg hb;rw[Ac] at hb ⊢;by_cases dV:r=r'
  ·subst dV;simp only[dj,qU] at hb ⊢;exact⟨w.heap.size,0,vs,e,(0,0),zE,ox w _,λj _=>by simp,by omega⟩
  ·rw[aI dV] at hb ⊢;obtain⟨B,o,cur,e',fz,h1,h2,h3,h4⟩:=h.room r' hg hb;exact⟨B,o,cur,e',fz,I5 (af h1) h1 (λe=>dV e.symm),(ej h1).trans h2,h3,h4⟩
 ·intro B l hB;have hz:(w.alloc (.cells vs e)).heap.size=w.heap.size+1:=by simp
  rw[hz];rcases zD hB with⟨rfl,_⟩ | ⟨aD,dH⟩
  ·exact Nat.lt_succ_self _
  ·refine Nat.lt_succ_of_lt ?_;rcases dH with⟨_,h1⟩ | ⟨r',o,_,_,h1⟩ | ⟨q,q',o,_,h1,_⟩<;>exact h.fx B _ h1
 ·intro B B' pl o o' h1 h2;rcases zD h1 with⟨_,he⟩ | ⟨_,⟨he,_⟩ | ⟨_,_,he,_⟩ | ⟨q,t,o1,he,g1,g2⟩⟩
  ·cases he
  ·cases he
  ·cases he
  rcases zD h2 with⟨_,dh⟩ | ⟨_,⟨dh,_⟩ | ⟨_,_,dh,_⟩ | ⟨q',t',kf,dh,pD,zY⟩⟩
  ·cases dh
  ·cases dh
  ·cases dh
  simp only[db.row.injEq] at he dh;obtain⟨rfl,rfl⟩:=he;obtain⟨rfl,rfl⟩:=dh;have:q=q':=by
   rcases U0 g2 with⟨a1,a4,a2⟩ | ⟨a1,a2,a3⟩<;>rcases U0 zY with⟨b1,b4,b2⟩ | ⟨b1,b2,b3⟩
   ·rw[a2] at b2;simp only[Place.mk.injEq,Key.b.injEq,nD] at b2;cases q;cases q';simp_all
   ·exact absurd (by rw[<-b2,a2]) (b3 q.j a4)
   ·exact absurd (by rw[<-a2,b2]) (a3 q'.j b4)
   ·rw[<-a2,<-b2]
  subst this;exact h.ey B B' q o o' g1 pD
 ·intro B B' r' o o' h1 h2;rcases zD h1 with⟨rfl,he⟩ | ⟨_,⟨he,_⟩ | ⟨r1,o1,he,gS,g1⟩ | ⟨q,t,o1,he,g1,g2⟩⟩
  ·simp only[db.box.injEq] at he;rcases zD h2 with⟨rfl,dh⟩ | ⟨_,⟨dh,_⟩ | ⟨HP,kf,dh,aak,pD⟩ | ⟨q',t',kf,dh,pD,zY⟩⟩
   ·rfl
   ·cases dh
   ·simp only[db.box.injEq] at dh;exact absurd (dh.1.symm.trans he.1) aak
   ·cases dh
  ·cases he
  ·simp only[db.box.injEq] at he;rcases zD h2 with⟨rfl,dh⟩ | ⟨_,⟨dh,_⟩ | ⟨HP,kf,dh,aak,pD⟩ | ⟨q',t',kf,dh,pD,zY⟩⟩
   ·simp only[db.box.injEq] at dh;exact absurd (he.1.symm.trans dh.1) gS
   ·cases dh
   ·simp only[db.box.injEq] at dh;rw[<-he.1] at g1;rw[<-dh.1] at pD;exact h.fy B B' r' o1 kf g1 pD
   ·cases dh
  ·cases he
 ·refine⟨rfl,rfl,rfl,by simp,λB hB=>⟨Xd (af hB) hB,ej hB⟩,?_,λB i o hB=>I5 (af hB) hB (λe=>yl i e.symm)⟩;intro B Ap hB;have aD:B≠w.heap.size:=by omega
  exact⟨agw aD hB,mY w _ aD⟩
 ·intro B q o hB;rcases zD hB with⟨_,he⟩ | ⟨_,⟨he,_⟩ | ⟨_,_,he,_⟩ | ⟨q0,t,o1,he,g1,g2⟩⟩
  ·cases he
  ·cases he
  ·cases he
  ·simp only[db.row.injEq] at he;obtain⟨rfl,rfl⟩:=he;rcases U0 g2 with⟨_,_,rfl⟩ | ⟨h1,rfl,_⟩
   ·rfl
   ·exact h1
end
end
end Go.ax
