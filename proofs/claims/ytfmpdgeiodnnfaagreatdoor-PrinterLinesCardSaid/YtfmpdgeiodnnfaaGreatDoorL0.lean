/- A part of the proof. -/
import GoSem.Core.Code
import GoSem.Core.Machine
import Derived.Calls
import Derived.Laws.Sem
import Derived.Laws.World
set_option linter.all false
section
namespace Go
abbrev aj:=@Option.some.injEq
abbrev cB:=@List.getElem?_eq_some_iff
abbrev bf:=@decide_eq_true
abbrev bO:=@List.getElem?_map
abbrev bL:=@List.getElem_mem
abbrev bK:=@Bool.and_eq_true
abbrev cg:=@decide_eq_false
abbrev cf:=@List.length_map
abbrev fp:=@Option.bind_eq_some_iff
abbrev ew:=@List.length_append
abbrev eo:=@List.append_assoc
abbrev fm:=@List.mem_of_getElem?
abbrev iw:=@Array.getD_eq_getD_getElem?
abbrev dC:=@List.mem_append
abbrev bT:=@Nat.le_refl
abbrev eg:=@List.map_append
abbrev az:=@if_neg
abbrev dc:=@Nat.zero_add
abbrev fy:=@decide_eq_true_eq
abbrev fe:=@Option.map_some
abbrev aJ:=@if_pos
abbrev kC:=@List.getD_eq_getElem?_getD
abbrev ke:=@List.getElem?_eq_getElem
abbrev gp:=@List.length_cons
abbrev lG:=@Array.getElem?_eq_some_iff
abbrev kD:=@List.getElem?_cons_zero
abbrev fJ:=@Prod.mk.injEq
abbrev fS:=@List.map_cons
abbrev kE:=@List.mem_cons_of_mem
abbrev jT:=@List.mem_cons_self
abbrev od:=@List.getElem?_append_left
abbrev oc:=@Array.getElem?_eq_getElem
abbrev kF:=@of_decide_eq_false
abbrev mJ:=@Nat.eq_of_beq_eq_true
abbrev eV:=@beq_iff_eq
abbrev bV:=@if_true
abbrev gV:=@List.mem_cons
abbrev jD:=@List.length_nil
abbrev qI:=@List.getElem?_append_right
abbrev nC:=@Nat.mul_le_mul_right
abbrev dE:=@if_false
abbrev gW:=@Nat.add_zero
abbrev pS:=@List.length_eq_zero_iff
abbrev iz:=@List.mem_map
abbrev lH:=@List.all_eq_true
abbrev iQ:=@Nat.le_trans
abbrev pR:=@List.getElem?_eq_none
abbrev nA:=@Bool.not_eq_true'
abbrev tA:=@List.drop_eq_getElem_cons
abbrev tG:=@Nat.exists_eq_add_of_le'
abbrev nB:=@List.not_mem_nil
abbrev qJ:=@List.getElem?_set_ne
abbrev mH:=@List.append_nil
abbrev wM:=@Array.getElem?_setIfInBounds
abbrev yA:=@Array.getElem?_setIfInBounds_ne
abbrev mI:=@List.mapM_cons
abbrev pT:=@List.take_add_one
abbrev fW:=@congrArg
abbrev rR:=@beq_eq_false_iff_ne
abbrev tD:=@List.mem_of_mem_take
abbrev rQ:=@Bool.false_eq_true
abbrev qG:=@List.cons_append
abbrev rU:=@of_decide_eq_true
abbrev uM:=@List.getElem?_of_mem
abbrev lI:=@Nat.add_mul
abbrev tC:=@List.getElem?_drop
abbrev yI:=@Option.isSome_iff_exists
abbrev yD:=@List.getElem?_take_of_lt
abbrev qH:=@List.cons.injEq
abbrev yB:=@List.getElem?_cons_succ
abbrev AT:=@Array.getElem?_append_left
abbrev uO:=@List.mem_singleton
abbrev yF:=@List.take_of_length_le
abbrev yC:=@List.getElem?_set_self
abbrev pU:=@Nat.add_assoc
abbrev tE:=@List.mem_range
abbrev uS:=@Option.some.inj
abbrev uQ:=@Nat.le_antisymm
abbrev uP:=@List.nil_append
abbrev AU:=@Array.getElem?_modify
abbrev lk:=@true_and
abbrev tF:=@List.sum_cons
abbrev wN:=@Bool.or_eq_true
abbrev DW:=@List.drop_eq_nil_of_le
abbrev DU:=@Array.getElem?_toList
abbrev DV:=@List.count_le_length
abbrev yE:=@List.length_set
abbrev AV:=@List.count_append
abbrev uN:=@List.map_nil
abbrev nD:=@or_false
abbrev DX:=@List.getElem_of_mem
abbrev AZ:=@List.take_length
abbrev AX:=@List.length_take
abbrev rP:=@Array.ext'
abbrev HB:=@List.append_eq_nil_iff
abbrev uR:=@Nat.mul_one
abbrev M8:=@Int.tdiv_eq_ediv_of_nonneg
abbrev HJ:=@List.mem_append_left
abbrev HG:=@List.getLast?_append
abbrev A0:=@List.take_zero
abbrev AW:=@List.drop_zero
abbrev HF:=@List.getElem?_range
abbrev yG:=@Nat.lt_or_ge
abbrev HP:=@Option.toList_some
abbrev HM:=@Nat.lt_of_lt_of_le
abbrev HC:=@List.count_eq_zero
abbrev HA:=@Array.getElem?_map
abbrev Nb:=@List.length_eq_one_iff
abbrev M7:=@Array.getElem?_eq_none
abbrev yH:=@Nat.zero_le
abbrev HK:=@List.nodup_append
abbrev HE:=@List.flatMap_cons
abbrev AY:=@List.map_set
abbrev HQ:=@beq_self_eq_true
abbrev HN:=@Nat.mod_eq_of_lt
abbrev Ng:=@List.pairwise_append
abbrev Nd:=@List.mem_of_mem_drop
abbrev HL:=@List.sum_append
abbrev Uy:=@Array.getElem?_append_right
abbrev UF:=@Int.tmod_eq_emod_of_nonneg
abbrev D0:=@Nat.sub_zero
abbrev Nj:=@Nat.pos_of_ne_zero
abbrev Ni:=@Nat.eq_zero_or_pos
abbrev DY:=@List.sum_nil
abbrev M':=@List.getElem?_take
abbrev U3:=@Option.isNone_iff_eq_none
abbrev UT:=@List.mem_or_eq_of_mem_set
abbrev UN:=@List.getElem?_eq_none_iff
abbrev UE:=@Classical.byContradiction
abbrev Nk:=@not_false_eq_true
abbrev M9:=@List.getElem?_set
abbrev U6:=@decide_eq_false_iff_not
abbrev UO:=@List.getElem?_replicate
abbrev Nc:=@List.mem_flatMap
abbrev Na:=@List.length_drop
abbrev Uz:=@Array.getElem?_extract
abbrev HO:=@Nat.mul_comm
abbrev Nh:=@List.range_succ
abbrev Nf:=@List.nodup_cons
abbrev UQ:=@List.length_replicate
abbrev D2:=@bne_iff_ne
abbrev DZ:=@Nat.mod_lt
abbrev UJ:=@List.count_replicate
abbrev U4:=@bne_eq_false_iff_eq
abbrev UR:=@List.map_congr_left
abbrev UB:=@Array.length_toList
abbrev UA:=@Array.getElem?_push
abbrev UY:=@Nat.lt_of_le_of_lt
abbrev UU:=@List.pairwise_cons
abbrev UH:=@List.countP_append
abbrev Ux:=@Array.foldl_toList
abbrev Uw:=@Array.all_eq_true'
abbrev UP:=@List.length_range
abbrev UL:=@List.ext_getElem?
abbrev UG:=@Int.toNat_natCast
abbrev U5:=@decide_eq_decide
abbrev HR:=@cond_true
abbrev UM:=@List.foldl_cons
abbrev UI:=@List.count_cons
abbrev UZ:=@Nat.mul_le_mul
abbrev aeI:=@List.getElem?_zip_eq_some
abbrev UK:=@List.drop_drop
abbrev aeG:=@Array.mapM_eq_mapM_toList
abbrev aeF:=@Array.getElem?_replicate
abbrev UX:=@Nat.lt_irrefl
abbrev UD:=@Bool.not_true
abbrev UC:=@Bool.false_or
abbrev aeL:=@List.range_succ_eq_map
abbrev aeK:=@List.pairwise_lt_range
abbrev aeH:=@ByteArray.data_extract
abbrev U2:=@Nat.zero_mul
abbrev U1:=@Nat.sub_self
abbrev U0:=@Nat.pow_succ
abbrev aeN:=@Nat.le_of_ble_eq_true
abbrev UW:=@List.set_set
abbrev aeM:=@List.set_getElem_self
abbrev aeJ:=@List.mem_append_right
abbrev US:=@List.map_map
end Go
namespace Go.ax
inductive Tag where | im (nil:Bool) | own
 deriving DecidableEq
inductive D where
 | int (k:IntKind) (n:Int)
 | bool (b:Bool)
 | str (s:List UInt8)
 | sl (t:Tag) (sz:Nat) (rows:List (List D))
 | dead
 deriving Inhabited
def xF:D→Bool
 | .int .u8 _=>true
 | _=>false
def tj:List D→Bool
 | [d]=>xF d
 | _=>false
def lS (rows:List (List D)):Bool:=rows.isEmpty||rows.any fun r=>!tj r
def fR (bytes:Nat) (src:List (List D)) (em:Bool):Bool:=lS src||bytes==1
def AJ (z dH:D):Bool:=!xF z||xF dH
def Hp:List D→List D→Bool
 | z::zs,o::os=>AJ z o&&Hp zs os
 | _,_=>true
inductive aI where | e (i:Nat) | l (i:Nat) | g (i:Nat)
 deriving DecidableEq,Inhabited
def aI.iX:aI→Bool
 | .g _=>true
 | _=>false
inductive Key where | s (i:Nat) | b (r:aI) (c:Nat) | r (r:aI) | h (i:Nat) | a (k:Key)
 deriving DecidableEq,Inhabited
structure Place where
 k:Key
 j:Nat
 p:List (Nat×Nat)
 deriving DecidableEq,Inhabited
def Place.sub (pl:Place) (i c:Nat):Place:={ pl with p:=pl.p++[(i,c)] }
inductive C where
 | d (x:D)
 | ptr (r:aI) (g c:Nat)
 | eD (pl:Place) (g sz i c:Nat)
 | pp (cells:List D)
 | view (pl:Place) (g sz off len:Nat)
 | c7 (pl:Place) (g a sz:Nat) (rows:List (List D))
 | fn (f:Nat) (first cap:List C)
 | cE | eW | fQ
 | fj
 | bt (t:Nat)
 | mp (x:D)
 | gk (i g:Nat)
 | dead
 deriving Inhabited
inductive V where
 | one (c:C)
 | agg (cs:List C)
 | aq (vs:List V)
 deriving Inhabited
abbrev kN:Nat:=1000000000000
def zS (n:Nat):Bool:=Nat.ble n 999999999999
theorem JT {n:Nat} (h:zS n=true):n < kN:=Nat.lt_succ_of_le (aeN h)
def V.dead:V:=.one .dead
def cm:V→Nat
 | .one (.d (.int _ n))=>n.toNat
 | _=>0
def fw (n:Nat):V:=.one (.d (.int .i64 n))
structure mL where
 v:V
 g:Nat
 deriving Inhabited
abbrev St:=List (Key×mL)
def St.get (S:St) (k:Key):mL:=
 match S with
 | []=>⟨.one .dead,0⟩
 | (k',e)::t=>if k'=k then e else St.get t k
def St.put (S:St) (k:Key) (e:mL):St:=
 match S with
 | []=>[(k,e)]
 | (k',e')::t=>if k'=k then (k,e)::t else (k',e')::St.put t k e
structure Wr where
 k:Key
 v:V
 keep:Bool:=false
 deriving Inhabited
def St.wr (S:St) (x:Wr):St:=S.put x.k ⟨x.v,if x.keep then (S.get x.k).g else (S.get x.k).g+1⟩
def St.ah (S:St):List Wr→St
 | []=>S
 | x::t=>(S.ah t).wr x
def aoH {R:Type} (b:Bool) (k:Unit→Option R):Option R:=bif b then k () else none
def GY {R:Type} (b:Bool) (k:Bool→Option R):Option R:=bif b then k true else k false
def iZ {R:Type} (d:D) (k:Nat→List (List D)→Option R):Option R:=match d with | .sl .own sz rows=>k sz rows | _=>none
def aH {β R:Type} (o:Option β) (k:β→Option R):Option R:=match o with | some b=>k b | none=>none
inductive Q (α:Type):Type 1 where
 | ret (a:α)
 | get (k:Key) (f:mL→Q α)
 | oo {β:Type} (h:(R:Type)→(β→Option R)→Option R) (nat:∀(R:Type) (k:β→Option R),h R k=(h β some).bind k) (f:β→Q α)
 | no
namespace Q
def bind {α β:Type}:Q α→(α→Q β)→Q β
 | .ret a,f=>f a
 | .get k g,f=>.get k fun e=>(g e).bind f
 | .oo h nat g,f=>.oo h nat fun b=>(g b).bind f
 | .no,_=>.no
instance:Monad Q where
 pure:=Q.ret
 bind:=Q.bind
def at_ (k:Key):Q mL:=.get k .ret
def run {α:Type} (S:St):Q α→Option α
 | .ret a=>some a
 | .get k f=>(f (S.get k)).run S
 | .oo h _ f=>h α fun b=>(f b).run S
 | .no=>none
def reads {α:Type} (S:St):Q α→List Key
 | .ret _=>[]
 | .get k f=>k::(f (S.get k)).reads S
 | .oo h _ f=>(h (List Key) fun b=>some ((f b).reads S)).getD []
 | .no=>[]
def guard (b:Bool):Q Unit:=.oo (fun _ k=>aoH b fun _=>k ()) (by intro R k;cases b<;>rfl) .ret
def dq {α:Type} (o:Option α):Q α:=.oo (fun _ k=>aH o k) (by intro R k;cases o<;>rfl) .ret
def ask (b:Bool):Q Bool:=.oo (fun _ k=>GY b k) (by intro R k;cases b<;>rfl) .ret
def NK (d:D):Q D:=.oo (fun _ k=>iZ d fun sz rows=>k (.sl .own sz rows)) (by intro R k;unfold iZ;split<;>rfl) .ret
end Q
section
variable {α β:Type} (S:St)
@[simp] theorem Q.arv (a:α):(Q.ret a).run S=some a:=rfl
@[simp] theorem Q.run_pure (a:α):(pure a:Q α).run S=some a:=rfl
@[simp] theorem Q.aru:(Q.no:Q α).run S=none:=rfl
@[simp] theorem Q.run_get (k:Key) (f:mL→Q α):(Q.get k f).run S=(f (S.get k)).run S:=rfl
@[simp] theorem Q.uD (k:Key):(Q.at_ k).run S=some (S.get k):=rfl
theorem Q.run_bind' (x:Q α) (f:α→Q β):(x.bind f).run S=(x.run S).bind fun a=>(f a).run S:=by
 induction x with
 | ret a=>rfl
 | get k g ih=>simp only [Q.bind,Q.run];exact ih _
 | oo h nat g ih=>
  simp only [Q.bind,Q.run];rw [nat,nat α];cases hh:h _ some with
  | none=>rfl
  | some b=>simp only [Option.bind];exact ih b
 | no=>rfl
@[simp] theorem Q.run_bind (x:Q α) (f:α→Q β):(x >>= f).run S=(x.run S).bind fun a=>(f a).run S:=Q.run_bind' S x f
@[simp] theorem Q.lB (b:Bool):(Q.guard b).run S=if b then some () else none:=by cases b<;>rfl
@[simp] theorem Q.yp (x:Option α):(Q.dq x).run S=x:=by cases x<;>rfl
@[simp] theorem Q.MC (b:Bool):(Q.ask b).run S=some b:=by cases b<;>rfl
theorem Q.apg {d y:D} (h:(Q.NK d).run S=some y):y=d:=by
 have h':(iZ d fun sz rows=>some (D.sl .own sz rows))=some y:=h;unfold iZ at h';split at h'
 ·simpa using h'.symm
 ·cases h'
@[simp] theorem Q.run_ite (c:Prop) [Decidable c] (x y:Q α):(if c then x else y).run S=if c then x.run S else y.run S:=by split<;>rfl
theorem Q.Tl {S S':St} (x:Q α) (h:∀k∈x.reads S,S'.get k=S.get k):x.run S'=x.run S∧x.reads S'=x.reads S:=by
 induction x with
 | ret a=>exact ⟨rfl,rfl⟩
 | get k f ih=>
  have hk:=h k (by simp [Q.reads]);have:=ih (S.get k) (fun k' iG=>h k' (by simp [Q.reads,iG]));simp only [Q.run,Q.reads,hk];exact ⟨this.1,by rw [this.2]⟩
 | oo c nat f ih=>
  simp only [Q.run,Q.reads] at h ⊢;rw [nat,nat _ (fun b=>(f b).run S),nat (List Key) (fun b=>some ((f b).reads S')),nat (List Key) (fun b=>some ((f b).reads S))];rw [nat (List Key)] at h;cases hc:c _ some with
  | none=>exact ⟨rfl,rfl⟩
  | some b=>
   rw [hc] at h;have:=ih b h;simp only [Option.bind,Option.getD];exact this
 | no=>exact ⟨rfl,rfl⟩
end
theorem St.aiV (S:St) (k k':Key) (e:mL):(S.put k e).get k'=if k=k' then e else S.get k':=by
 induction S with
 | nil=>simp only [St.put,St.get]
 | cons x t ih=>
  obtain ⟨k0,e0⟩:=x;simp only [St.put];by_cases h0:k0=k
  ·subst h0;simp only [bV,St.get];by_cases h:k0=k'<;>simp [h]
  ·simp only [h0,dE,St.get,ih];by_cases h1:k0=k'
   ·subst h1;simp [Ne.symm h0]
   ·simp [h1]
end Go.ax
end
namespace Go.ax
section
inductive X where | s (i:Nat) | t (i:Nat) | c (v:V) | f (n:Nat)
 deriving Inhabited
inductive Cv where | int (k:IntKind) | Im | TQ | same
 deriving DecidableEq
inductive Fl where | int | bool | str
 deriving DecidableEq,Inhabited
inductive TC where | other | bool | struct (fs:List Fl) | ptr | slice | func | iface
 deriving Inhabited
inductive oY where
 | LB (x:X)
 | RY (x:X)
 | pick (c a b:X)
 | alloc (zero:List C)
 | ND (t:Nat) (zero:List C)
 | box (n:Nat) (x:X)
 | NV (t n:Nat) (x:X)
 | build (zero:List C) (parts:List (Nat×Nat×X))
 | Pk (parts:List X)
 | NW (sz:Nat) (rows:List (List D)) (parts:List (Nat×X))
 | load (n:Nat) (agg:Bool) (x:X)
 | store (mv:Bool) (n:Nat) (x v:X)
 | bin (tc:TC) (op:BinOp) (x y:X)
 | un (op:UnOp) (x:X)
 | conv (c:Cv) (x:X)
 | RI (f:Nat) (first cap:List X)
 | RN (sz bytes:Nat) (zero:List D) (l c:X)
 | Tv (x:X) (lo hi:Option X)
 | slice (sz:Nat) (x:X) (lo hi mx:Option X)
 | Pe (off:Nat) (x:X)
 | field (off n:Nat) (agg:Bool) (x:X)
 | Q0 (sz:Nat) (x i:X)
 | Q5 (n sz:Nat) (x i:X)
 | index (x i:X)
 | extract (j:Nat) (x:X)
 | len (str:Bool) (x:X)
 | app (sz bytes:Nat) (x y:X)
 | A8 (sz bytes:Nat) (x y:X)
 | A6 (x y:X)
 | min (x y:X)
 | max (x y:X)
 | call (f:X) (args:List (Bool×X))
 | RJ (x:X)
 | To (x:X)
 | T5 (x n:X)
 | RM
 | RH (m k:X)
 | RO (m k v:X)
 | bad
 deriving Inhabited
def BJ (tag:Nat):C→Option (List C)
 | .fn t [] l=>match Nat.beq t tag with | true=>some l | false=>none
 | _=>none
theorem Pg {tag:Nat} {c:C} {l:List C} (h:BJ tag c=some l):c = .fn tag [] l:=by
 unfold BJ at h;split at h
 ·split at h
  ·rename_i t l' hb;cases h;rw [mJ hb]
  ·cases h
 ·cases h
def C.ZJ:C→Bool
 | .fn n _ _=>zS n
 | _=>false
def C.own:C→Bool
 | .d (.sl .own _ _)=>true
 | .c7 .. => true
 | .bt _=>true
 | .mp _=>true
 | _=>false
def V.cells:V→List C
 | .one c=>[c]
 | .agg cs=>cs
 | .aq _=>[]
def V.own (v:V):Bool:=v.cells.any C.own
mutual
def kY:D→D
 | .int k n=>.int k n
 | .bool b=>.bool b
 | .str s=>.str s
 | .sl .own sz rows=>.sl (.im false) sz (aW rows)
 | .sl (.im b) sz rows=>.sl (.im b) sz rows
 | .dead=>.dead
def Dk:List D→List D
 | []=>[]
 | d::t=>kY d::Dk t
def aW:List (List D)→List (List D)
 | []=>[]
 | r::t=>Dk r::aW t
end
def C.plain:C→C
 | .d x=>.d (kY x)
 | .mp _=>.dead
 | c=>c
def V.plain:V→V
 | .one c=>.one c.plain
 | .agg cs=>.agg (cs.map C.plain)
 | .aq vs=>.aq vs
def C.look (k:Key) (g j:Nat):C→C
 | .d (.sl .own sz rows)=>.view ⟨k,j,[]⟩ g sz 0 rows.length
 | .c7 .. => .dead
 | .bt _=>.dead
 | .mp _=>.dead
 | c=>c
def ur (k:Key) (g:Nat):Nat→List C→List C
 | _,[]=>[]
 | j,c::cs=>c.look k g j::ur k g (j+1) cs
def V.look (k:Key) (g:Nat):V→V
 | .one c=>.one (c.look k g 0)
 | .agg cs=>.agg (ur k g 0 cs)
 | .aq vs=>.aq vs
def eu:D→List (Nat×Nat)→Option D
 | d,[]=>some d
 | .sl .own _ rows,(i,c)::p=>((rows[i]?).bind (·[c]?)).bind (eu · p)
 | _,_::_=>none
def eF (x:D) (p:List (Nat×Nat)) (y:D):D:=
 match p with
 | []=>y
 | (i,c)::p=>
  match x with
  | .sl .own sz rows=>.sl .own sz (rows.set i ((rows.getD i []).set c (eF (((rows.getD i [])).getD c (.bool false)) p y)))
  | x=>x
def V.setCell (v:V) (j:Nat) (c:C):V:=
 match v with
 | .one c0=>if j=0 then .one c else .one c0
 | .agg cs=>.agg (cs.set j c)
 | .aq vs=>.aq vs
def D.flat:D→Bool
 | .sl .. => false
 | .dead=>false
 | _=>true
def C.flat:C→Bool
 | .d x=>x.flat
 | _=>false
def V.flat:V→Bool
 | .one c=>c.flat
 | .agg cs=>cs.all C.flat
 | .aq vs=>go vs
where go:List V→Bool
 | []=>true
 | v::t=>v.flat&&go t
def rd:X→Q V
 | .s i=>do let e ←Q.at_ (.s i);pure (e.v.look (.s i) e.g)
 | .t i=>do let e ←Q.at_ (.s i);pure (e.v.look (.s i) e.g)
 | .c v=>pure v
 | .f n=>pure (.one (.fn n [] []))
def nj (ws:List Wr) (k:Key) (v:V):List Wr:={ k,v } :: ws
def pZ:List Wr→Key→Option V
 | [],_=>none
 | x::t,k=>if x.k=k then some x.v else pZ t k
def r5 (ws:List Wr) (k:Key):Q mL:=do
 let e ←Q.at_ k
 match pZ ws k with
 | some v=>pure ⟨v,e.g⟩
 | none=>pure e
def fresh (ws:List Wr) (k:Key):Bool:=(pZ ws k).isNone&&(pZ ws (.a k)).isNone
def tk (ws:List Wr):X→Q (V×List Wr)
 | .t i=>do
  let e ←Q.at_ (.s i)
  Q.guard (pZ ws (.s i)).isNone
  if e.v.own then pure (e.v,nj ws (.s i) V.dead) else pure (e.v,ws)
 | x=>do let v ←rd x;pure (v,ws)
def xQ:D→List (Nat×Nat)→Q D
 | d,[]=>pure d
 | .sl .own _ rows,(i,c)::p=>do
  let row ←Q.dq rows[i]?
  let y ←Q.dq row[c]?
  let y ←Q.NK y
  xQ y p
 | _,_::_=>Q.no
def jw (ws:List Wr) (pl:Place) (g sz:Nat):Q (mL×D×List (List D)):=do
 let e ←r5 ws pl.k
 Q.guard (e.g==g)
 match e.v.cells[pl.j]? with
 | some (.d x)=>do
  let y ←xQ x pl.p
  match y with
  | .sl .own cw rows=>do Q.guard (cw==sz);pure (e,x,rows)
  | _=>Q.no
 | _=>Q.no
def st (ws:List Wr):C→Q (C×List Wr)
 | .view pl g sz off len=>do
  let (e,x,rows) ←jw ws pl g sz
  Q.guard (decide (off+len≤rows.length))
  pure (.d (.sl (.im false) sz (aW ((rows.drop off).take len))),nj ws pl.k (e.v.setCell pl.j (.d (eF x pl.p (.sl (.im false) sz (aW rows))))))
 | .c7 pl g a sz rows=>do
  let (e,x,dH) ←jw ws pl g sz
  let ea ←Q.at_ (.a pl.k)
  Q.guard (ea.g==a&&fresh ws pl.k)
  pure (.d (.sl (.im false) sz (aW rows)),nj ws pl.k (e.v.setCell pl.j (.d (eF x pl.p (.sl (.im false) sz (aW dH))))))
 | .eD .. => Q.no
 | .bt _=>Q.no
 | .mp _=>Q.no
 | .gk .. => Q.no
 | .dead=>Q.no
 | c=>pure (c,ws)
def lD (ws:List Wr):List C→Q (List C×List Wr)
 | []=>pure ([],ws)
 | c::cs=>do
  let (c',ws) ←st ws c
  let (eA,ws) ←lD ws cs
  pure (c'::eA,ws)
def sN (v:V) (pl:Place) (x:D):V:=v.setCell pl.j (.d (eF x pl.p .dead))
def settle (ws:List Wr) (pl:Place) (g a sz:Nat) (rows:List (List D)):Q (C×List Wr):=do
 let (e,x,_) ←jw ws pl g sz
 let ea ←Q.at_ (.a pl.k)
 Q.guard (ea.g==a&&fresh ws pl.k)
 pure (.d (.sl .own sz rows),nj ws pl.k (sN e.v pl x))
def oU (ws:List Wr) (P:Place):C→Q (C×List Wr)
 | .c7 pl g a sz rows=>if pl=P then settle ws pl g a sz rows else st ws (.c7 pl g a sz rows)
 | c=>st ws c
def Key.Gz:Key→Bool
 | .b (.e _) _=>false
 | _=>true
def ta (ws:List Wr) (P:Place):C→Q (C×List Wr)
 | .view pl g sz off len=>do
  let (e,x,rows) ←jw ws pl g sz
  let t ←Q.ask (!(pl.k==P.k)&&pl.k.Gz&&(off==0&&len==rows.length && !rows.isEmpty))
  if t then
   pure (.d (.sl .own sz rows),nj ws pl.k (sN e.v pl x))
  else st ws (.view pl g sz off len)
 | .c7 pl g a sz rows=>
  if !(pl.k==P.k)&&pl.k.Gz then settle ws pl g a sz rows
  else oU ws P (.c7 pl g a sz rows)
 | c=>st ws c
def lQ (agg:Bool) (cs:List C):Q V:=
 if agg then pure (.agg cs) else match cs with
  | [c]=>pure (.one c)
  | _=>Q.no
def wh (r:aI):Nat→Nat→Q (List C)
 | _,0=>pure []
 | c,n+1=>do
  let e ←Q.at_ (.b r c)
  match e.v with
  | .one x=>do let t ←wh r (c+1) n;pure (x.look (.b r c) e.g 0::t)
  | _=>Q.no
def RB (pl:Place) (g:Nat):D→C
 | .sl .own sz rows=>.view pl g sz 0 rows.length
 | y=>.d y
def rh (pl:Place) (g i:Nat):Nat→List D→List C
 | _,[]=>[]
 | c,x::t=>RB (pl.sub i c) g x::rh pl g i (c+1) t
def gf (r:aI):Nat→List C→List Wr→List Wr
 | _,[],ws=>ws
 | c,x::t,ws=>gf r (c+1) t ({ k:=.b r c,v:=.one x } :: ws)
def boxed (dst:Nat) (cs:List C) (ws:List Wr):Q (V×List Wr):=do
 let e ←r5 ws (.r (.l dst))
 Q.guard (cm e.v==0||cm e.v==cs.length)
 pure (.one (.ptr (.l dst) (e.g+1) 0),gf (.l dst) 0 cs ({ k:=.r (.l dst),v:=fw cs.length } :: ws))
def DG {α:Type} (l:List α) (off:Nat) (cs:List α):List α:=l.take off++cs++l.drop (off+cs.length)
def EG (ws:List Wr):List C→List (Nat×Nat×X)→Q (List C×List Wr)
 | cells,[]=>pure (cells,ws)
 | cells,(off,n,x)::rest=>do
  let (v,ws) ←tk ws x
  let (cs,ws) ←lD ws v.cells
  Q.guard (cs.length==n&&decide (off+n≤cells.length))
  EG ws (DG cells off cs) rest
def mQ:List C→Option (List D)
 | []=>some []
 | .d x::t=>(mQ t).map (x :: ·)
 | _::_=>none
def EH (sz:Nat) (ws:List Wr):List (List D)→List (Nat×X)→Q (List (List D)×List Wr)
 | rows,[]=>pure (rows,ws)
 | rows,(i,x)::rest=>do
  let (v,ws) ←tk ws x
  let (cs,ws) ←lD ws v.cells
  let row ←Q.dq (mQ cs)
  Q.guard (row.length==sz&&decide (i < rows.length))
  EH sz ws (rows.set i row) rest
def D.db:List UInt8→List (List D):=fun s=>s.map fun b=>[.int .u8 b.toNat]
def kA:List (List D)→Option (List UInt8)
 | []=>some []
 | [.int .u8 n]::t=>(kA t).map (UInt8.ofNat n.toNat :: ·)
 | _::_=>none
def qp:List (List D)→List UInt8→Bool
 | [.str k,.bool b]::t,s=>bif s==k then b else qp t s
 | _,_=>false
def qq:List (List D)→List UInt8→Bool→List (List D)
 | [.str k,.bool b]::t,s,v=>bif s==k then [.str s,.bool v]::t else [.str k,.bool b]::qq t s v
 | _,s,v=>[[.str s,.bool v]]
def bytesLess:List UInt8→List UInt8→Bool
 | _,[]=>false
 | [],_::_=>true
 | a::x,b::y=>a < b||(a==b&&bytesLess x y)
def Hl (op:BinOp) (x y:List UInt8):Option D:=
 match op with
 | .add=>if x.length+y.length≤9223372036854775807 then some (.str (x++y)) else none
 | .eql=>some (.bool (x==y))
 | .neq=>some (.bool (!(x==y)))
 | .lss=>some (.bool (bytesLess x y))
 | .leq=>some (.bool (bytesLess x y||x==y))
 | .gtr=>some (.bool (!(bytesLess x y||x==y)))
 | .geq=>some (.bool (!bytesLess x y))
 | _=>none
def Ct (op:BinOp) (k:IntKind) (x y:Int):Option D:=
 match op with
 | .add=>some (.int k (k.wrap (x+y)))
 | .sub=>some (.int k (k.wrap (x - y)))
 | .mul=>some (.int k (k.wrap (x * y)))
 | .quo=>if y=0 then none else some (.int k (k.wrap (x.tdiv y)))
 | .rem=>if y=0 then none else some (.int k (x.tmod y))
 | .and=>some (.int k (k.wrap (BitVec.ofInt k.bits x &&& BitVec.ofInt k.bits y).toNat))
 | .or=>some (.int k (k.wrap (BitVec.ofInt k.bits x ||| BitVec.ofInt k.bits y).toNat))
 | .xor=>some (.int k (k.wrap (BitVec.ofInt k.bits x ^^^ BitVec.ofInt k.bits y).toNat))
 | .andNot=>some (.int k (k.wrap (BitVec.ofInt k.bits x &&& ~~~(BitVec.ofInt k.bits y)).toNat))
 | .eql=>some (.bool (x==y))
 | .neq=>some (.bool (x != y))
 | .lss=>some (.bool (decide (x < y)))
 | .leq=>some (.bool (decide (x≤y)))
 | .gtr=>some (.bool (decide (x > y)))
 | .geq=>some (.bool (decide (x≥y)))
 | _=>none
def DF (op:BinOp) (k:IntKind) (x y:Int):Option D:=
 if y < 0 then none else
 match op with
 | .shl=>some (.int k (k.wrap (x * 2 ^ (Min.min y.toNat k.bits))))
 | .shr=>some (.int k (x.fdiv (2 ^ (Min.min y.toNat k.bits))))
 | _=>none
def dy:List Fl→List C→List C→Option Bool
 | [],[],[]=>some true
 | .int::r,.d (.int k x)::s,.d (.int k' y)::t=>if k=k' then (dy r s t).map (x==y && ·) else none
 | .bool::r,.d (.bool x)::s,.d (.bool y)::t=>(dy r s t).map (x==y && ·)
 | .str::r,.d (.str x)::s,.d (.str y)::t=>(dy r s t).map (x==y && ·)
 | _,_,_=>none
def jK:TC→C→Option Bool
 | .ptr,.cE=>some true
 | .ptr,.ptr .. => some false
 | .func,.eW=>some true
 | .func,.fn n _ _=>match zS n with | true=>some false | false=>none
 | .iface,.fQ=>some true
 | .iface,.fj=>some false
 | .slice,.d (.sl (.im b) _ _)=>some b
 | .slice,.view .. => some false
 | _,_=>none
def r6 (tc:TC) (op:BinOp) (x y:V):Option D:=
 match x,y with
 | .one (.d (.int k a)),.one (.d (.int k' b))=>
  match op with
  | .shl=>DF .shl k a b
  | .shr=>DF .shr k a b
  | _=>if k=k' then Ct op k a b else none
 | .one (.d (.str a)),.one (.d (.str b))=>Hl op a b
 | .one (.d (.bool a)),.one (.d (.bool b))=>
  match tc,op with
  | .bool,.eql=>some (.bool (a==b))
  | .bool,.neq=>some (.bool (!(a==b)))
  | _,_=>none
 | .agg a,.agg b=>
  match tc,op with
  | .struct fs,.eql=>(dy fs a b).map .bool
  | .struct fs,.neq=>(dy fs a b).map fun r=>.bool (!r)
  | _,_=>none
 | .one a,.one b=>
  if jK tc b=some true then
   match op with
   | .eql=>(jK tc a).map .bool
   | .neq=>(jK tc a).map fun r=>.bool (!r)
   | _=>none
  else none
 | _,_=>none
def unV (op:UnOp) (x:V):Option D:=
 match op,x with
 | .not,.one (.d (.bool b))=>some (.bool (!b))
 | .neg,.one (.d (.int k n))=>some (.int k (k.wrap (0 - n)))
 | .xor,.one (.d (.int k n))=>some (.int k (k.wrap (BitVec.ofInt k.bits (if k.signed then -1 else k.max) ^^^ BitVec.ofInt k.bits n).toNat))
 | _,_=>none
def asNat:V→Option Nat
 | .one (.d (.int _ n))=>if 0≤n then some n.toNat else none
 | _=>none
def qu (x:Option X) (d:Nat):Q Nat:=
 match x with
 | none=>pure d
 | some x=>do let v ←rd x;Q.dq (asNat v)
def shown:V→Q (List (List D))
 | .one (.d (.sl .own _ _))=>Q.no
 | .one (.d (.sl _ _ rows))=>pure rows
 | .one (.view pl g sz off len)=>do
  let (_,_,rows) ←jw [] pl g sz
  Q.guard (decide (off+len≤rows.length))
  pure (aW ((rows.drop off).take len))
 | _=>Q.no
def Tt:X→Q (List (List D))
 | .s i=>do
  let e ←Q.at_ (.s i)
  match e.v with
  | .one (.c7 pl g a _ rows)=>do
   let ep ←Q.at_ pl.k
   let ea ←Q.at_ (.a pl.k)
   Q.guard (ep.g==g&&ea.g==a)
   pure rows
  | _=>Q.no
 | _=>Q.no
def rowsOf (sz:Nat) (ws:List Wr) (v:V):Q (List (List D)×List Wr):=
 match v with
 | .one c=>do
  let (c',ws) ←st ws c
  match c' with
  | .d (.sl _ cw rows)=>do Q.guard (cw==sz||rows.isEmpty);pure (rows,ws)
  | _=>Q.no
 | _=>Q.no
def wS (sz bytes:Nat) (v:V) (ws:List Wr) (src:List (List D)):Q (V×List Wr):=
 match v with
 | .one (.d (.sl .own cw rows))=>do
  Q.guard (fR bytes src rows.isEmpty&&(cw==sz&&decide ((rows.length+src.length) * bytes≤140737488355328)))
  pure (.one (.d (.sl .own sz (rows++src))),ws)
 | .one (.d (.sl (.im b) cw _))=>do
  Q.guard (fR bytes src false&&(b&&cw==sz&&decide (src.length * bytes≤140737488355328)))
  pure (.one (.d (.sl (if src.isEmpty then .im true else .own) sz src)),ws)
 | .one (.view pl g cw off len)=>do
  let (_,_,rows) ←jw ws pl g sz
  Q.guard (fR bytes src rows.isEmpty&&cw==sz&&off==0&&len==rows.length&&fresh ws pl.k&&decide ((rows.length+src.length) * bytes≤140737488355328))
  let ea ←Q.at_ (.a pl.k)
  pure (.one (.c7 pl g (ea.g+1) sz (rows++src)),{ k:=.a pl.k,v:=V.dead } :: ws)
 | .one (.c7 pl g a cw rows)=>do
  let (_,_,dH) ←jw ws pl g sz
  let ea ←Q.at_ (.a pl.k)
  Q.guard (fR bytes src rows.isEmpty&&cw==sz&&decide (dH.length≤rows.length)&&ea.g==a&&fresh ws pl.k&&decide ((rows.length+src.length) * bytes≤140737488355328))
  pure (.one (.c7 pl g (ea.g+1) sz (rows++src)),{ k:=.a pl.k,v:=V.dead } :: ws)
 | _=>Q.no
def aa6 (dst:Nat) (v:V) (ws:List Wr):Q (V×List Wr):=
 match v with
 | .one (.c7 pl g a sz rows)=>do
  let (c,ws) ←settle ws pl g a sz rows
  pure (.one c,ws)
 | .one (.view pl g sz off len)=>
  if pl.k = .s dst then do
   let (c,ws) ←st ws (.view pl g sz off len)
   pure (.one c,ws)
  else pure (v,ws)
 | _=>pure (v,ws)
def sj (rows:List (List D)):Bool:=rows.all fun r=>r.all D.flat
def XG (sz bytes:Nat) (x y:X):Q (V×List Wr):=do
 let (a,ws) ←tk [] y
 let (src,ws) ←rowsOf sz ws a
 let (v,ws) ←tk ws x
 wS sz bytes v ws src
def vg (P:Place) (i:Nat) (ws:List Wr):Nat→List C→Q (List D×List Wr)
 | _,[]=>pure ([],ws)
 | c,y::t=>do
  let (y',ws) ←oU ws (P.sub i c) y
  match y' with
  | .d z=>do
   let (zs,ws) ←vg P i ws (c+1) t
   pure (z::zs,ws)
  | _=>Q.no
def w7 (v:V) (pl:Place) (i:Nat):Nat→List D→D→List Wr→Option (List Wr)
 | _,[],_,ws=>some ws
 | c,z::t,x,ws=>
  match eu x (pl.p++[(i,c)]) with
  | none=>none
  | some dH=>
   if AJ z dH=true then
   w7 (v.setCell pl.j (.d (eF x (pl.p++[(i,c)]) z))) pl i (c+1) t (eF x (pl.p++[(i,c)]) z)
    ({ k:=pl.k,v:=v.setCell pl.j (.d (eF x (pl.p++[(i,c)]) z)),keep:=dH.flat&&z.flat } :: { k:=.a pl.k,v:=V.dead } :: ws)
   else none
def Me (mv:Bool) (ws:List Wr) (P:Place) (y:C):Q (C×List Wr):=if mv then ta ws P y else oU ws P y
def putCells (mv:Bool) (r:aI) (ws:List Wr):Nat→List C→Q (List C×List Wr)
 | _,[]=>pure ([],ws)
 | c,y::t=>do
  let (y',ws) ←Me mv ws ⟨.b r c,0,[]⟩ y
  let (ys,ws) ←putCells mv r ws (c+1) t
  pure (y'::ys,ws)
end
section
abbrev bW:=Nat→List V→List (List C)→Option (V×List (List C))
mutual
def C.wa:C→List (aI×Nat)
 | .ptr r g _=>[(r,g)]
 | .fn _ a b=>kZ a++kZ b
 | _=>[]
def kZ:List C→List (aI×Nat)
 | []=>[]
 | c::t=>c.wa++kZ t
end
def rZ:List aI→List (aI×Nat)→List aI
 | rs,[]=>rs
 | rs,(r,_)::t=>if rs.contains r then rZ rs t else rZ (rs++[r]) t
def xM (ws:List Wr):List (aI×Nat)→Q Unit
 | []=>pure ()
 | (r,g)::t=>do
  let e ←Q.at_ (.r r)
  Q.guard (e.g==g&&(pZ ws (.r r)).isNone && !r.iX)
  xM ws t
def At (ws:List Wr) (r:aI):Nat→Nat→Q (List C)
 | _,0=>pure []
 | c,n+1=>do
  let e ←r5 ws (.b r c)
  match e.v with
  | .one x=>do
   let t ←At ws r (c+1) n
   pure (x::t)
  | _=>Q.no
def zi (ws:List Wr):Nat→List aI→Nat→Q (List aI×List (List C))
 | 0,rs,i=>if rs.length≤i then pure (rs,[]) else Q.no
 | f+1,rs,i=>
  match rs[i]? with
  | none=>pure (rs,[])
  | some r=>do
   let er ←Q.at_ (.r r)
   let cs ←At ws r 0 (cm er.v)
   xM ws (kZ cs)
   let (Td,bs) ←zi ws f (rZ rs (kZ cs)) (i+1)
   pure (Td,cs::bs)
def jn (rs:List aI) (r:aI) (i:Nat):Option Nat:=
 match rs with
 | []=>none
 | x::t=>if x=r then some i else jn t r (i+1)
mutual
def C.dZ (rs:List aI):C→Option C
 | .d x=>some (.d x)
 | .ptr r _ c=>(jn rs r 0).map fun i=>.ptr (.e i) 0 c
 | .pp cells=>some (.pp cells)
 | .fn f a b=>(lO rs a).bind fun a'=>(lO rs b).map fun b'=>.fn f a' b'
 | .cE=>some .cE
 | .eW=>some .eW
 | .fQ=>some .fQ
 | .fj=>some .fj
 | .bt t=>some (.bt t)
 | .dead=>some .dead
 | _=>none
def lO (rs:List aI):List C→Option (List C)
 | []=>some []
 | c::t=>(c.dZ rs).bind fun c'=>(lO rs t).map (c' :: ·)
end
def V.Cs (rs:List aI):V→Option V
 | .one c=>(c.dZ rs).map .one
 | .agg cs=>(lO rs cs).map .agg
 | .aq _=>none
def uj (rs:List aI):List V→Option (List V)
 | []=>some []
 | v::t=>(v.Cs rs).bind fun v'=>(uj rs t).map (v' :: ·)
def pB (rs:List aI):List (List C)→Option (List (List C))
 | []=>some []
 | v::t=>(lO rs v).bind fun v'=>(pB rs t).map (v' :: ·)
mutual
def C.dT (rs:List (aI×Nat)):C→Option C
 | .d x=>some (.d x)
 | .ptr (.e i) _ c=>(rs[i]?).map fun x=>.ptr x.1 x.2 c
 | .ptr _ _ _=>none
 | .pp cells=>some (.pp cells)
 | .fn f a b=>(nh rs a).bind fun a'=>(nh rs b).map fun b'=>.fn f a' b'
 | .cE=>some .cE
 | .eW=>some .eW
 | .fQ=>some .fQ
 | .fj=>some .fj
 | .bt t=>some (.bt t)
 | .dead=>some .dead
 | _=>none
def nh (rs:List (aI×Nat)):List C→Option (List C)
 | []=>some []
 | c::t=>(c.dT rs).bind fun c'=>(nh rs t).map (c' :: ·)
end
mutual
def V.pG (rs:List (aI×Nat)):V→Option V
 | .one c=>(c.dT rs).map .one
 | .agg cs=>(nh rs cs).map .agg
 | .aq vs=>(sY rs vs).map .aq
def sY (rs:List (aI×Nat)):List V→Option (List V)
 | []=>some []
 | v::t=>(v.pG rs).bind fun v'=>(sY rs t).map (v' :: ·)
end
def rn (rs:List (aI×Nat)):List (List C)→Option (List (List C))
 | []=>some []
 | v::t=>(nh rs v).bind fun v'=>(rn rs t).map (v' :: ·)
def BM:List aI→Q (List (aI×Nat))
 | []=>pure []
 | x::t=>do
  let e ←Q.at_ (.r x)
  let l ←BM t
  pure ((x,e.g)::l)
def C.same:C→C→Bool
 | .ptr r g c,.ptr r' g' c'=>decide (r=r')&&g==g'&&c==c'
 | _,_=>false
def mw (r:aI):Nat→List C→List C→List Wr→List Wr
 | c,x::t,y::u,ws=>mw r (c+1) t u (if y.same x then ws else { k:=.b r c,v:=.one x } :: ws)
 | _,_,_,ws=>ws
def jG:List aI→List (List C)→List (List C)→List Wr→List Wr
 | x::rs,cs::bs,ol::os,ws=>jG rs bs os (mw x 0 cs ol ws)
 | _,_,_,ws=>ws
def sR:List (List C)→List (List C)→Bool
 | [],[]=>true
 | x::t,y::u=>x.length==y.length&&sR t u
 | _,_=>false
def yh (ws:List Wr):List (Bool×X)→Q (List V×List Wr)
 | []=>pure ([],ws)
 | (_,x)::t=>do
  let (v,ws) ←tk ws x
  match v with
  | .one c=>do
   let (c',ws) ←st ws c
   let (vs,ws) ←yh ws t
   pure (.one c'.plain::vs,ws)
  | .agg cs=>do
   let (eA,ws) ←lD ws cs
   let (vs,ws) ←yh ws t
   pure (.agg (eA.map C.plain)::vs,ws)
  | .aq _=>Q.no
def tu:List V→List (aI×Nat)
 | []=>[]
 | v::t=>kZ v.cells++tu t
def yV (Cl:bW) (dst:Nat) (f:Nat) (vs:List V) (ws:List Wr):Q (V×List Wr):=do
 xM ws (tu vs)
 let (rs,bs) ←zi ws 40 (rZ [] (tu vs)) 0
 let eR ←Q.dq (uj rs vs)
 let dJ ←Q.dq (pB rs bs)
 let (r,out) ←Q.dq (Cl f eR dJ)
 if rs.isEmpty&&r.flat&&out.isEmpty then pure (r,[])
 else do
  let gs ←BM rs
  if out.length=rs.length then do
   let r' ←Q.dq (r.pG gs)
   let cK ←Q.dq (rn gs out)
   Q.guard (sR cK bs)
   pure (r',jG rs cK bs ws)
  else do
   let e ←r5 ws (.r (.l dst))
   let EP:=gs++[(.l dst,e.g+1)]
   let r' ←Q.dq (r.pG EP)
   let cK ←Q.dq (rn EP out)
   let nb:=cK.getD rs.length []
   Q.guard (out.length==rs.length+1&&sR (cK.take rs.length) bs&&(cm e.v==0||cm e.v==nb.length) && !rs.contains (.l dst))
   pure (r',gf (.l dst) 0 nb ({ k:=.r (.l dst),v:=fw nb.length } :: jG rs cK bs ws))
def zg (ws:List Wr):List X→Q (List C×List Wr)
 | []=>pure ([],ws)
 | x::t=>do
  let v ←rd x
  match v with
  | .one c=>do
   let (c',ws) ←st ws c
   let (r,ws) ←zg ws t
   pure (c'::r,ws)
  | _=>Q.no
def Tag.Xx:Tag→Tag
 | .im b=>bif b then .im true else .own
 | .own=>.own
def bp (Cl:bW) (dst:Nat):oY→Q (V×List Wr)
 | .LB x=>do let (v,ws) ←tk [] x;aa6 dst v ws
 | .RY x=>do
  let v ←rd x
  match v with
  | .one (.ptr ..)=>pure (v,[])
  | .one (.eD ..)=>pure (v,[])
  | .one (.pp _)=>pure (v,[])
  | .one (.fn n _ _)=>do
   Q.guard (zS n)
   pure (v,[])
  | _=>Q.no
 | .pick c a b=>do
  let v ←rd c
  match v with
  | .one (.d (.bool true))=>do let r ←rd a;pure (r,[])
  | .one (.d (.bool false))=>do let r ←rd b;pure (r,[])
  | _=>Q.no
 | .alloc zero=>boxed dst zero []
 | .ND t zero=>do
  let (v,ws) ←boxed dst zero []
  pure (v,{ k:=.b (.l dst) 0,v:=.one (.bt t) } :: ws)
 | .box n x=>do
  let (v,ws) ←tk [] x
  let (cs,ws) ←lD ws v.cells
  Q.guard (cs.length==n)
  boxed dst cs ws
 | .NV t n x=>do
  let (v,ws) ←tk [] x
  let (cs,ws) ←lD ws v.cells
  Q.guard (cs.length==n)
  match cs with
  | [.cE,z]=>do
   let (r,ws) ←boxed dst [.cE,z] ws
   pure (r,{ k:=.b (.l dst) 0,v:=.one (.bt t) } :: ws)
  | _=>Q.no
 | .build zero parts=>do let (cs,ws) ←EG [] zero parts;pure (.agg cs,ws)
 | .Pk parts=>do
  let (cs,ws) ←zg [] parts
  Q.guard (cs.all C.ZJ)
  pure (.one (.fn kN [] cs),ws)
 | .NW sz rows parts=>do
  let (rs,ws) ←EH sz [] rows parts
  Q.guard ((lS rs || !(lS rows))&&(!rs.isEmpty||parts.isEmpty))
  pure (.one (.d (.sl .own sz rs)),ws)
 | .load n agg x=>do
  let v ←rd x
  match v with
  | .one (.ptr r g c)=>do
   let e ←Q.at_ (.r r)
   Q.guard (!r.iX&&e.g==g&&decide (c+n≤cm e.v))
   let cs ←wh r c n
   let r' ←lQ agg cs
   pure (r',[])
  | .one (.pp cells)=>do
   Q.guard (decide (n≤cells.length))
   let r' ←lQ agg ((cells.take n).map .d)
   pure (r',[])
  | .one (.eD pl g sz i c)=>do
   let (_,_,rows) ←jw [] pl g sz
   let row ←Q.dq rows[i]?
   Q.guard (decide (c+n≤row.length))
   let r' ←lQ agg (rh pl g i c ((row.drop c).take n))
   pure (r',[])
  | .one (.fn t f l)=>do
   let l ←Q.dq (BJ (kN+1) (.fn t f l))
   Q.guard (l.length==n)
   let r' ←lQ agg l
   pure (r',[])
  | _=>Q.no
 | .store mv n x v=>do
  let p ←rd x
  let (vv,ws) ←tk [] v
  Q.guard (vv.cells.length==n)
  match p with
  | .one (.ptr r g c)=>do
   let (cs,ws) ←putCells mv r ws c vv.cells
   let e ←r5 ws (.r r)
   Q.guard (!r.iX&&e.g==g&&decide (c+n≤cm e.v))
   pure (.aq [],gf r c cs ws)
  | .one (.eD pl g sz i c)=>do
   let (zs,ws) ←vg pl i ws c vv.cells
   let (e,x0,rows) ←jw ws pl g sz
   let row ←Q.dq rows[i]?
   Q.guard (decide (c+n≤row.length))
   let ws ←Q.dq (w7 e.v pl i c zs x0 ws)
   pure (.aq [],ws)
  | _=>Q.no
 | .bin tc op x y=>do
  let a ←rd x
  let b ←rd y
  let r ←Q.dq (r6 tc op a b)
  pure (.one (.d r),[])
 | .un op x=>do
  let a ←rd x
  let r ←Q.dq (unV op a)
  pure (.one (.d r),[])
 | .conv c x=>do
  let a ←rd x
  match c,a with
  | .int k,.one (.d (.int _ n))=>pure (.one (.d (.int k (k.wrap n))),[])
  | .same,.one (.d (.str s))=>pure (.one (.d (.str s)),[])
  | .TQ,.one (.d (.str s))=>do
   Q.guard (decide (s.length≤140737488355328))
   pure (.one (.d (.sl .own 1 (D.db s))),[])
  | .Im,.one .dead=>do
   let rows ←Tt x
   let s ←Q.dq (kA rows)
   pure (.one (.d (.str s)),[])
  | .Im,a=>do
   let rows ←shown a
   let s ←Q.dq (kA rows)
   pure (.one (.d (.str s)),[])
  | _,_=>Q.no
 | .RI f first cap=>do
  let (a,ws) ←zg [] first
  let (b,ws) ←zg ws cap
  pure (.one (.fn f a b),ws)
 | .RN sz bytes zero l c=>do
  let n ←rd l
  let m ←rd c
  let n ←Q.dq (asNat n)
  let m ←Q.dq (asNat m)
  Q.guard (decide (n≤m)&&decide (m * bytes≤140737488355328)&&decide (m≤9223372036854775807)&&zero.length==sz&&(bytes==1||(!(tj zero)&&(!(n==0)||m==0))))
  pure (.one (.d (.sl .own sz (List.replicate n zero))),[])
 | .Tv x lo hi=>do
  let v ←rd x
  match v with
  | .one (.d (.str s))=>do
   let l ←qu lo 0
   let h ←qu hi s.length
   Q.guard (decide (l≤h)&&decide (h≤s.length))
   pure (.one (.d (.str ((s.drop l).take (h - l)))),[])
  | _=>Q.no
 | .slice pL x lo hi mx=>do
  let v ←rd x
  match v with
  | .one (.d (.sl .own _ _))=>Q.no
  | .one (.d (.sl t sz rows))=>do
   let l ←qu lo 0
   let h ←qu hi rows.length
   Q.guard ((sz==pL||rows.isEmpty)&&decide (l≤h)&&decide (h≤rows.length))
   match mx with
   | none=>pure (.one (.d (.sl t sz ((rows.drop l).take (h - l)))),[])
   | some x=>do
    let vm ←rd x
    let m ←Q.dq (asNat vm)
    Q.guard (m==0&&l==0&&h==0)
    pure (.one (.d (.sl t.Xx sz [])),[])
  | .one (.view pl g sz off len)=>do
   let l ←qu lo 0
   let h ←qu hi len
   Q.guard (sz==pL&&decide (l≤h)&&decide (h≤len)&&mx.isNone&&(decide (0 < h)||len==0))
   pure (.one (.view pl g sz (off+l) (h - l)),[])
  | _=>Q.no
 | .Pe off x=>do
  let v ←rd x
  match v with
  | .one (.ptr r g c)=>pure (.one (.ptr r g (c+off)),[])
  | .one (.pp cells)=>pure (.one (.pp (cells.drop off)),[])
  | .one (.eD pl g sz i c)=>pure (.one (.eD pl g sz i (c+off)),[])
  | _=>Q.no
 | .field off n agg x=>do
  let v ←rd x
  match v with
  | .agg cs=>do
   Q.guard (decide (off+n≤cs.length))
   let r ←lQ agg ((cs.drop off).take n)
   pure (r,[])
  | _=>Q.no
 | .Q0 sz x i=>do
  let v ←rd x
  let vi ←rd i
  let i ←Q.dq (asNat vi)
  match v with
  | .one (.d (.sl .own _ _))=>Q.no
  | .one (.d (.sl _ cw rows))=>do
   Q.guard (cw==sz)
   let row ←Q.dq rows[i]?
   pure (.one (.pp row),[])
  | .one (.view pl g cw off len)=>do
   Q.guard (cw==sz&&decide (i < len))
   pure (.one (.eD pl g sz (off+i) 0),[])
  | .one (.fn t f l)=>do
   let l ←Q.dq (BJ kN (.fn t f l))
   Q.guard (sz==1)
   let c ←Q.dq l[i]?
   pure (.one (.fn (kN+1) [] [c]),[])
  | _=>Q.no
 | .Q5 n sz x i=>do
  let v ←rd x
  let vi ←rd i
  let i ←Q.dq (asNat vi)
  Q.guard (decide (i < n))
  match v with
  | .one (.ptr r g c)=>pure (.one (.ptr r g (c+i * sz)),[])
  | _=>Q.no
 | .index x i=>do
  let v ←rd x
  let vi ←rd i
  let i ←Q.dq (asNat vi)
  match v with
  | .one (.d (.str s))=>do
   let b ←Q.dq s[i]?
   pure (.one (.d (.int .u8 b.toNat)),[])
  | _=>Q.no
 | .extract j x=>do
  let v ←rd x
  match v with
  | .aq vs=>do let r ←Q.dq vs[j]?;pure (r,[])
  | _=>Q.no
 | .len true x=>do
  let v ←rd x
  match v with
  | .one (.d (.str s))=>pure (.one (.d (.int .i64 s.length)),[])
  | _=>Q.no
 | .len false x=>do
  let v ←rd x
  match v with
  | .one (.d (.sl _ _ rows))=>pure (.one (.d (.int .i64 rows.length)),[])
  | .one (.view _ _ _ _ len)=>pure (.one (.d (.int .i64 len)),[])
  | .one (.fn t f l)=>do
   let l ←Q.dq (BJ kN (.fn t f l))
   pure (.one (.d (.int .i64 l.length)),[])
  | _=>Q.no
 | .app sz bytes x y=>do
  let (a,ws) ←tk [] y
  let (src,ws) ←rowsOf sz ws a
  let (v,ws) ←tk ws x
  wS sz bytes v ws src
 | .A8 sz bytes x y=>do
  let a ←rd y
  match a with
  | .one (.view pl g cw off len)=>do
   let (_,_,rows) ←jw [] pl g cw
   Q.guard (cw==sz&&decide (off+len≤rows.length)&&sj ((rows.drop off).take len))
   let (v,ws) ←tk [] x
   wS sz bytes v ws ((rows.drop off).take len)
  | _=>XG sz bytes x y
 | .A6 x y=>do
  let a ←rd y
  match a with
  | .one (.d (.str s))=>do
   let (v,ws) ←tk [] x
   wS 1 1 v ws (D.db s)
  | _=>Q.no
 | .min x y=>do
  let a ←rd x
  let b ←rd y
  match a,b with
  | .one (.d (.int k m)),.one (.d (.int _ n))=>pure (.one (.d (.int k (if n < m then n else m))),[])
  | _,_=>Q.no
 | .max x y=>do
  let a ←rd x
  let b ←rd y
  match a,b with
  | .one (.d (.int k m)),.one (.d (.int _ n))=>pure (.one (.d (.int k (if n > m then n else m))),[])
  | _,_=>Q.no
 | .call f args=>do
  let vf ←rd f
  match vf with
  | .one (.fn n first cap)=>do
   Q.guard (zS n)
   let (vs,ws) ←yh [] args
   yV Cl dst n (first.map .one++vs++cap.map .one) ws
  | _=>Q.no
 | .RJ _=>pure (.one .fj,[])
 | .To x=>do
  let v ←rd x
  match v with
  | .one (.view pl g sz off len)=>do
   Q.guard (!(len==0)&&off==0)
   pure (.one (.eD pl g sz 0 0),[])
  | _=>Q.no
 | .T5 x n=>do
  let v ←rd x
  let vn ←rd n
  let n ←Q.dq (asNat vn)
  match v with
  | .one (.eD pl g sz i c)=>do
   let (e,x0,rows) ←jw [] pl g sz
   Q.guard (sz==1&&i==0&&c==0&&n==rows.length && !(n==0)&&decide (n≤140737488355328))
   let s ←Q.dq (kA rows)
   pure (.one (.d (.str s)),nj [] pl.k (sN e.v pl x0))
  | _=>Q.no
 | .RM=>do
  let e ←Q.at_ (.b (.g dst) 0)
  let n ←Q.at_ (.r (.g dst))
  Q.guard (decide (cm n.v≤1))
  pure (.one (.gk dst (e.g+1)),[{ k:=.b (.g dst) 0,v:=.one (.mp (.sl (.im false) 2 [])) },{ k:=.r (.g dst),v:=fw 1 }])
 | .RH m k=>do
  let v ←rd m
  let s ←rd k
  match v,s with
  | .one (.gk i g),.one (.d (.str s))=>do
   let e ←Q.at_ (.b (.g i) 0)
   match e.v with
   | .one (.mp (.sl _ _ rows))=>do
    Q.guard (e.g==g)
    pure (.one (.d (.bool (qp rows s))),[])
   | _=>Q.no
  | _,_=>Q.no
 | .RO m k x=>do
  let v ←rd m
  let s ←rd k
  let b ←rd x
  match v,s,b with
  | .one (.gk i g),.one (.d (.str s)),.one (.d (.bool b))=>do
   let e ←Q.at_ (.b (.g i) 0)
   match e.v with
   | .one (.mp (.sl _ _ rows))=>do
    Q.guard (e.g==g)
    pure (.aq [],[{ k:=.b (.g i) 0,v:=.one (.mp (.sl (.im false) 2 (qq rows s b))),keep:=true },{ k:=.a (.b (.g i) 0),v:=V.dead }])
   | _=>Q.no
  | _,_,_=>Q.no
 | .bad=>Q.no
end
section
structure gB where
 dst:Option Nat
 op:oY
 guard:Option (Nat×Bool)
 deriving Inhabited
inductive lY where
 | skip
 | ja (keep:Option (List Nat)) (gc:Bool) (ops:List gB) (draw:Option (List (Nat×Nat)))
 | seq (a b:lY)
 | cond (c:X) (a b:lY)
 | block (id:Nat) (body:lY)
 | loop (body:lY)
 | exit (id:Nat)
 | ret
 deriving Inhabited
inductive RV where
 | slot (t:Nat)
 | cell (t n:Nat) (agg:Bool)
 deriving Inhabited
structure ll where
 C7:Nat
 results:List RV
 body:lY
 forget:Bool
 deriving Inhabited
inductive tI where | norm | exit (id:Nat) | ret
 deriving DecidableEq,Inhabited
def BR:Option (Nat×Bool)→Q Bool
 | none=>pure true
 | some (t,b)=>do
  let e ←Q.at_ (.s t)
  match e.v with
  | .one (.d (.bool x))=>pure (x==b)
  | .aq []=>pure false
  | _=>Q.no
def gw (Cl:bW) (o:gB):Q (List Wr):=do
 let want ←BR o.guard
 if want then do
  let (v,ws) ←bp Cl (o.dst.getD 0) o.op
  match o.dst with
  | some d=>pure ({ k:=.s d,v } :: ws)
  | none=>pure ws
 else
  match o.dst with
  | some d=>pure [{ k:=.s d,v:=.aq [] }]
  | none=>pure []
def ma (Cl:bW):List gB→St→Option St
 | [],S=>some S
 | o::t,S=>((gw Cl o).run S).bind fun ws=>ma Cl t (S.ah ws)
structure lK where
 r:List Key
 w:List Key
def il (Cl:bW):List gB→St→Option (St×List lK)
 | [],S=>some (S,[])
 | o::t,S=>((gw Cl o).run S).bind fun ws=>
  (il Cl t (S.ah ws)).map fun x=>(x.1,⟨(gw Cl o).reads S,ws.map (·.k)⟩::x.2)
def lK.apart (x y:lK):Bool:=
 x.w.all (fun k=>!y.r.contains k && !y.w.contains k)&&y.w.all (fun k=>!x.r.contains k)
def Sq (fs:List lK) (ps:List (Nat×Nat)):Bool:=
 ps.all fun (i,j)=>match fs[i]?,fs[j]? with
  | some x,some y=>x.apart y
  | _,_=>false
mutual
def C.refs:C→List Key
 | .view pl .. => [pl.k]
 | .eD pl .. => [pl.k]
 | .c7 pl .. => [pl.k,.a pl.k]
 | .gk i _=>[.b (.g i) 0]
 | .fn _ a b=>Dt a++Dt b
 | _=>[]
def Dt:List C→List Key
 | []=>[]
 | c::t=>c.refs++Dt t
end
mutual
def V.refs:V→List Key
 | .one c=>c.refs
 | .agg cs=>Dt cs
 | .aq vs=>Mp vs
def Mp:List V→List Key
 | []=>[]
 | v::t=>v.refs++Mp t
end
def kept (keep:List Nat):Key→Bool
 | .s i=>keep.contains i
 | .h _=>false
 | _=>true
def allRefs:St→List Key
 | []=>[]
 | (_,e)::t=>e.v.refs++allRefs t
def Ms (refs:List Key) (k:Key) (g:Nat):Nat:=if refs.contains k then g else match k with | .r _=>g | _=>0
def reset (refs:List Key):St→St
 | []=>[]
 | (k,e)::t=>(k,{ e with g:=Ms refs k e.g })::reset refs t
def ZI:mL→Bool
 | ⟨.one .dead,g⟩=>Nat.beq g 0
 | _=>false
def OH (S:St):Key→Bool
 | .a k=>ZI (S.get (.a k))
 | _=>false
def EA (S:St):St:=S.filter fun x=>!OH S x.1
def St.RZ (keep:List Nat) (S:St):Option St:=
 let S':=S.filter fun x=>kept keep x.1
 if (allRefs S').all (kept keep) then some (EA (reset (allRefs S') S')) else none
def Tx:List Key→List Nat
 | []=>[]
 | .s i::t=>i::Tx t
 | _::t=>Tx t
def St.looked (keep:List Nat) (S:St):List Nat:=keep++Tx (allRefs (S.filter fun x=>kept keep x.1))
def St.norm (keep:List Nat) (S:St):Option St:=S.RZ (S.looked (S.looked keep))
def Key.uz : Key→Option aI
 | .b x _=>some x
 | .r x=>some x
 | _=>none
mutual
def C.wq:C→List aI
 | .ptr r .. => [r]
 | .eD pl .. => pl.k.uz.toList
 | .view pl .. => pl.k.uz.toList
 | .c7 pl .. => pl.k.uz.toList
 | .gk i _=>[.g i]
 | .fn _ a b=>Dw a++Dw b
 | _=>[]
def Dw:List C→List aI
 | []=>[]
 | c::t=>c.wq++Dw t
end
mutual
def V.roots:V→List aI
 | .one c=>c.wq
 | .agg cs=>Dw cs
 | .aq vs=>Mu vs
def Mu:List V→List aI
 | []=>[]
 | v::t=>v.roots++Mu t
end
def Key.aj8:Key→Bool
 | .s _=>true
 | _=>false
def Tw:St→List aI
 | []=>[]
 | (k,e)::t=>(if k.aj8 then e.v.roots else [])++Tw t
def VT (live:List aI):St→List aI
 | []=>[]
 | (k,e)::t=>(match k with | .b r _=>if live.contains r then e.v.roots else [] | _=>[])++VT live t
def Pr (S:St):Nat→List aI→List aI
 | 0,l=>l
 | n+1,l=>Pr S n (l++(VT l S).filter fun r=>!l.contains r)
def aI.ext:aI→Bool
 | .l _=>false
 | _=>true
def C.oK (c:C):C:=c
def V.oK:V→V
 | .one c=>.one c.oK
 | v=>v
def Af:St→St
 | []=>[]
 | (k,e)::t=>(k,{ e with v:=e.v.oK })::Af t
def pY (live:List aI) (k:Key):Bool:=match k.uz with | some r=>r.ext||live.contains r | none=>true
def St.gc (S:St):Option St:=
 let live:=Pr S 3 (Tw S)
 let S':=S.filter fun x=>pY live x.1
 if S'.all fun x=>x.2.v.roots.all fun r=>r.ext||live.contains r then some (Af S') else none
def po (Cl:bW) (keep:Option (List Nat)) (gc:Bool) (ops:List gB) (draw:Option (List (Nat×Nat))) (S:St):Option St:=
 (match keep with | some l=>S.norm l | none=>some S).bind fun S1=>
 (if gc then S1.gc else some S1).bind fun S2=>
 match draw with
 | none=>ma Cl ops S2
 | some []=>ma Cl ops S2
 | some ps=>(il Cl ops S2).bind fun x=>if Sq x.2 ps then some x.1 else none
def iter (f:St→Option (tI×St)):Nat→St→Option (tI×St)
 | 0,_=>none
 | n+1,S=>(f S).bind fun x=>match x.1 with
  | .norm=>iter f n x.2
  | e=>some (e,x.2)
def yY (S:St) (c:X):Option Bool:=
 ((rd c).run S).bind fun
  | .one (.d (.bool b))=>some b
  | _=>none
def dm (Cl:bW) (n:Nat):lY→St→Option (tI×St)
 | .skip,S=>some (.norm,S)
 | .ja keep gc ops draw,S=>(po Cl keep gc ops draw S).map fun S'=>(.norm,S')
 | .seq a b,S=>(dm Cl n a S).bind fun x=>match x.1 with
  | .norm=>dm Cl n b x.2
  | e=>some (e,x.2)
 | .cond c a b,S=>(yY S c).bind fun t=>if t then dm Cl n a S else dm Cl n b S
 | .block id b,S=>(dm Cl n b S).map fun x=>(match x.1 with | .exit i=>if i=id then .norm else .exit i | e=>e,x.2)
 | .loop b,S=>iter (dm Cl n b) n S
 | .exit id,S=>some (.exit id,S)
 | .ret,S=>some (.ret,S)
def ga:Nat→List V→St
 | _,[]=>[]
 | i,v::t=>(.s i,⟨v,0⟩)::ga (i+1) t
def Bc (r:aI):Nat→List C→St
 | _,[]=>[]
 | c,x::t=>(.b r c,⟨.one x,0⟩)::Bc r (c+1) t
def dk:Nat→List (List C)→St
 | _,[]=>[]
 | i,b::t=>(.r (.e i),⟨fw b.length,0⟩)::(Bc (.e i) 0 b++dk (i+1) t)
def G3 (ws:List Wr):RV→Q (V×List Wr)
 | .slot t=>tk ws (.t t)
 | .cell t n agg=>do
  let v ←rd (.s t)
  match v with
  | .one (.ptr r g c)=>do
   let e ←Q.at_ (.r r)
   Q.guard (!r.iX&&e.g==g&&decide (c+n≤cm e.v))
   let cs ←wh r c n
   let r' ←lQ agg cs
   pure (r',ws)
  | _=>Q.no
def Hh (ws:List Wr):List C→Q (List C×List Wr)
 | []=>pure ([],ws)
 | c::cs=>do
  let (c',ws) ←ta ws ⟨.h 0,0,[]⟩ c
  let (eA,ws) ←Hh ws cs
  pure (c'::eA,ws)
def S7 (r:RV):Q (V×List Wr):=do
 let (v,ws) ←G3 [] r
 match v with
 | .one c=>do let (c',ws) ←ta ws ⟨.h 0,0,[]⟩ c;pure (.one c',ws)
 | .agg cs=>do let (eA,ws) ←Hh ws cs;pure (.agg eA,ws)
 | .aq _=>Q.no
def wm (ws:List Wr):List RV→Q (List V×List Wr)
 | []=>pure ([],ws)
 | r::t=>do
  let (v,ws) ←G3 ws r
  match v with
  | .one c=>do
   let (c',ws) ←st ws c
   let (vs,ws) ←wm ws t
   pure (.one c'.plain::vs,ws)
  | .agg cs=>do
   let (eA,ws) ←lD ws cs
   let (vs,ws) ←wm ws t
   pure (.agg (eA.map C.plain)::vs,ws)
  | .aq _=>Q.no
def S6 (forget:Bool):List RV→Q (V×List Wr)
 | [r]=>if forget then do
   let (vs,ws) ←wm [] [r]
   match vs with
   | [v]=>pure (v,ws)
   | _=>Q.no
  else S7 r
 | rs=>do let (vs,ws) ←wm [] rs;pure (.aq vs,ws)
def sV:List (aI×Nat)→Option aI
 | []=>none
 | (.l i,_)::_=>some (.l i)
 | _::t=>sV t
def GO (ws:List Wr):Nat→List (List C)→Q (List (List C))
 | _,[]=>pure []
 | i,b::t=>do
  let e ←r5 ws (.r (.e i))
  Q.guard (cm e.v==b.length)
  let cs ←At ws (.e i) 0 b.length
  let r ←GO ws (i+1) t
  pure (cs::r)
def ov:Nat→Nat→List aI
 | _,0=>[]
 | i,n+1=>.e i::ov (i+1) n
mutual
def V.leave (rs:List aI):V→Option V
 | .one c=>(c.dZ rs).map .one
 | .agg cs=>(lO rs cs).map .agg
 | .aq vs=>(sQ rs vs).map .aq
def sQ (rs:List aI):List V→Option (List V)
 | []=>some []
 | v::t=>(v.leave rs).bind fun v'=>(sQ rs t).map (v' :: ·)
end
def Ar:List (List C)→List (aI×Nat)
 | []=>[]
 | b::t=>kZ b++Ar t
mutual
def V.As:V→List (aI×Nat)
 | .one c=>c.wa
 | .agg cs=>kZ cs
 | .aq vs=>GX vs
def GX:List V→List (aI×Nat)
 | []=>[]
 | v::t=>v.As++GX t
end
def ve (fn:ll) (bx:List (List C)):Q (V×List (List C)):=do
 let (v,ws) ←S6 fn.forget fn.results
 let out ←GO ws 0 bx
 match sV v.As with
 | none=>do
  xM ws (v.As++Ar out)
  let v' ←Q.dq (v.leave (ov 0 bx.length))
  let Dh ←Q.dq (pB (ov 0 bx.length) out)
  pure (v',Dh)
 | some r=>do
  let e ←r5 ws (.r r)
  let cs ←At ws r 0 (cm e.v)
  xM ws (v.As++Ar (out++[cs]))
  let v' ←Q.dq (v.leave (ov 0 bx.length++[r]))
  let Dh ←Q.dq (pB (ov 0 bx.length++[r]) (out++[cs]))
  pure (v',Dh)
def vb (Cl:bW) (n:Nat) (fn:ll) (args:List V) (bx:List (List C)):Option (V×List (List C)):=
 if args.length≤fn.C7 then
  (dm Cl n fn.body (ga 0 args++dk 0 bx)).bind fun x=>
   match x.1 with
   | .exit _=>none
   | _=>(ve fn bx).run x.2
 else none
def nF (T:Nat→Option ll) (pH:bW):Nat→bW
 | 0=>fun _ _ _=>none
 | n+1=>fun f args bx=>match T f with
  | some fn=>vb (nF T pH n) n fn args bx
  | none=>pH f args bx
end
section
inductive DS where
 | int (k:IntKind)
 | bool
 | str
 | im (sz:Nat)
 | own (sz:Nat)
 | sl (sz:Nat)
 | tg (sz:Nat)
 | bt (t:Nat)
 | lp (f:Nat) (l:List (Nat×Nat))
 | ptr (i c:Nat)
 | cE
 | eW
 | dead
 | any
 deriving DecidableEq,Inhabited
abbrev DS.T:DS→Type
 | .int _=>Int
 | .bool=>Bool
 | .str=>List UInt8
 | .im _=>Bool×List (List D)
 | .own _=>List (List D)
 | .sl _=>Tag×List (List D)
 | .tg _=>Tag×List (List D)
 | .bt _=>Unit
 | .lp _ _=>Unit
 | .ptr _ _=>Unit
 | .cE=>Unit
 | .eW=>Unit
 | .dead=>Unit
 | .any=>D
abbrev au:List DS→Type
 | []=>Unit
 | s::t=>s.T×au t
def ko:(s:DS)→D→Option s.T
 | .any,x=>some x
 | .int k,.int k' n=>if k=k' then some n else none
 | .bool,.bool b=>some b
 | .str,.str s=>some s
 | .im sz,.sl (.im b) cw rows=>if sz=cw then some (b,rows) else none
 | .own sz,.sl .own cw rows=>if sz=cw then some rows else none
 | .sl sz,.sl t cw rows=>if sz=cw then some (t,rows) else none
 | .tg sz,.sl t cw rows=>if sz=cw then some (t,rows) else none
 | .dead,.dead=>some ()
 | _,_=>none
def dS:(ds:List DS)→List D→Option (au ds)
 | [],[]=>some ()
 | s::t,x::l=>match ko s x,dS t l with
  | some v,some w=>some (v,w)
  | _,_=>none
 | _,_=>none
def SK {R:Type} (t:Tag) (k:Tag→Option R):Option R:=match t with | .im b=>k (.im b) | .own=>k .own
def Bw {R:Type}:(s:DS)→s.T→(D→Option R)→Option R
 | .int k,n,K=>K (.int k n)
 | .bool,b,K=>K (.bool b)
 | .str,s,K=>K (.str s)
 | .im sz,x,K=>K (.sl (.im x.1) sz x.2)
 | .own sz,x,K=>K (.sl .own sz x)
 | .sl sz,x,K=>SK x.1 fun t=>K (.sl t sz x.2)
 | .tg sz,x,K=>K (.sl x.1 sz x.2)
 | .bt _,_,K=>K .dead
 | .lp _ _,_,K=>K .dead
 | .ptr _ _,_,K=>K .dead
 | .cE,_,K=>K .dead
 | .eW,_,K=>K .dead
 | .dead,_,K=>K .dead
 | .any,x,K=>K x
def ou {R:Type}:(ds:List DS)→au ds→(List D→Option R)→Option R
 | [],_,K=>K []
 | s::t,v,K=>Bw s v.1 fun x=>ou t v.2 fun l=>K (x::l)
def cF {R:Type} (ds:List DS) (l:List D) (K:au ds→Option R):Option R:=match dS ds l with | some v=>K v | none=>none
inductive VS where
 | one (s:DS)
 | fj
 | agg (ds:List DS)
 deriving DecidableEq,Inhabited
abbrev VS.T:VS→Type
 | .one s=>s.T
 | .fj=>Bool
 | .agg ds=>au ds
inductive RS where
 | val (v:VS) (bs:List (List DS))
 | aq (vs:List VS) (bs:List (List DS))
 deriving DecidableEq,Inhabited
abbrev yN:List VS→Type
 | []=>Unit
 | v::t=>v.T×yN t
abbrev yK:List (List DS)→Type
 | []=>Unit
 | b::t=>au b×yK t
abbrev RS.T:RS→Type
 | .val v bs=>v.T×yK bs
 | .aq vs bs=>yN vs×yK bs
abbrev EO:Nat:=999999
def wZ:List (Nat×Nat)→List C→Bool
 | [],[]=>true
 | x::l,.ptr (.e i) g c::t=>Nat.beq x.1 i&&(Nat.beq g 0&&(Nat.beq x.2 c&&(!(Nat.beq i EO)&&wZ l t)))
 | x::l,.fn n [] []::t=>Nat.beq x.1 EO&&(Nat.beq x.2 n&&wZ l t)
 | _,_=>false
def Is (x:Nat×Nat):C:=match Nat.beq x.1 EO with
 | true=>.fn x.2 [] []
 | false=>.ptr (.e x.1) 0 x.2
def w4:List (Nat×Nat)→List C
 | []=>[]
 | x::l=>Is x::w4 l
def Iu:List C→Option (List (Nat×Nat))
 | []=>some []
 | .fn n [] []::t=>match Iu t with
  | some l=>some ((EO,n)::l)
  | none=>none
 | .ptr (.e i) _ c::t=>match Iu t with
  | some l=>some ((i,c)::l)
  | none=>none
 | _::_=>none
def u7 (s:DS) (c:C):Option s.T:=
 match c with
 | .d x=>ko s x
 | .fn f' [] cap=>match s with
  | .lp f l=>match Nat.beq f f',wZ l cap with
   | true,true=>some ()
   | _,_=>none
  | _=>none
 | .ptr (.e i') g c'=>match s with
  | .ptr i c=>match Nat.beq i i',Nat.beq g 0,Nat.beq c c' with
   | true,true,true=>some ()
   | _,_,_=>none
  | _=>none
 | .cE=>match s with
  | .cE=>some ()
  | _=>none
 | .eW=>match s with
  | .eW=>some ()
  | _=>none
 | .bt t'=>match s with
  | .bt t=>if t=t' then some () else none
  | _=>none
 | _=>none
def y7:(ds:List DS)→List C→Option (au ds)
 | [],[]=>some ()
 | s::t,x::l=>match u7 s x,y7 t l with
  | some v,some w=>some (v,w)
  | _,_=>none
 | _,_=>none
def w9 {R:Type}:(s:DS)→s.T→(C→Option R)→Option R
 | .bt t,_,K=>K (.bt t)
 | .lp f l,_,K=>K (.fn f [] (w4 l))
 | .ptr i c,_,K=>K (.ptr (.e i) 0 c)
 | .cE,_,K=>K .cE
 | .eW,_,K=>K .eW
 | .dead,_,K=>K (.d .dead)
 | .int k,v,K=>K (.d (.int k v))
 | .bool,v,K=>K (.d (.bool v))
 | .str,v,K=>K (.d (.str v))
 | .im sz,x,K=>K (.d (.sl (.im x.1) sz x.2))
 | .own sz,x,K=>K (.d (.sl .own sz x))
 | .sl sz,x,K=>SK x.1 fun t=>K (.d (.sl t sz x.2))
 | .tg sz,x,K=>K (.d (.sl x.1 sz x.2))
 | .any,x,K=>K (.d x)
def pj:(s:VS)→V→Option s.T
 | .one s,.one c=>u7 s c
 | .fj,.one .fQ=>some true
 | .fj,.one .fj=>some false
 | .agg ds,.agg cs=>match mQ cs with | some l=>dS ds l | none=>none
 | _,_=>none
def y9:(ss:List VS)→List V→Option (yN ss)
 | [],[]=>some ()
 | s::t,x::l=>match pj s x,y9 t l with
  | some v,some w=>some (v,w)
  | _,_=>none
 | _,_=>none
def tO {R:Type}:(ds:List DS)→au ds→(List C→Option R)→Option R
 | [],_,K=>K []
 | s::t,v,K=>w9 s v.1 fun x=>tO t v.2 fun l=>K (x::l)
def sc:(ss:List (List DS))→List (List C)→Option (yK ss)
 | [],[]=>some ()
 | s::t,x::l=>match y7 s x,sc t l with
  | some v,some w=>some (v,w)
  | _,_=>none
 | _,_=>none
def ik:(s:RS)→V×List (List C)→Option s.T
 | .val v bs,(x,out)=>match pj v x,sc bs out with
  | some a,some b=>some (a,b)
  | _,_=>none
 | .aq vs bs,(.aq xs,out)=>match y9 vs xs,sc bs out with
  | some a,some b=>some (a,b)
  | _,_=>none
 | _,_=>none
def sd {R:Type}:(s:VS)→s.T→(V→Option R)→Option R
 | .one s,x,K=>w9 s x fun y=>K (.one y)
 | .fj,b,K=>GY b fun t=>match t with | true=>K (.one .fQ) | false=>K (.one .fj)
 | .agg ds,x,K=>ou ds x fun l=>K (.agg (l.map .d))
def tQ {R:Type}:(ss:List VS)→yN ss→(List V→Option R)→Option R
 | [],_,K=>K []
 | s::t,x,K=>sd s x.1 fun v=>tQ t x.2 fun l=>K (v::l)
def pk {R:Type}:(ss:List (List DS))→yK ss→(List (List C)→Option R)→Option R
 | [],_,K=>K []
 | s::t,x,K=>tO s x.1 fun l=>pk t x.2 fun u=>K (l::u)
def qT {R:Type}:(s:RS)→s.T→(V×List (List C)→Option R)→Option R
 | .val v bs,x,K=>sd v x.1 fun a=>pk bs x.2 fun b=>K (a,b)
 | .aq vs bs,x,K=>tQ vs x.1 fun a=>pk bs x.2 fun b=>K (.aq a,b)
def aG {R:Type} (s:RS) (o:Option (V×List (List C))) (K:s.T→Option R):Option R:=
 match o with
 | some x=>match ik s x with | some v=>K v | none=>none
 | none=>none
theorem OE {R:Type} (s:DS) (v:s.T) (K:D→Option R):Bw s v K=(Bw s v some).bind K:=by
 cases s<;>simp only [Bw,Option.bind];case sl sz=>obtain ⟨t,rows⟩:=v;cases t<;>rfl
theorem xa {R:Type}:(ds:List DS)→(v:au ds)→(K:List D→Option R)→ou ds v K=(ou ds v some).bind K
 | [],_,_=>rfl
 | s::t,v,K=>by
  simp only [ou];rw [OE s v.1,OE s v.1 (fun x=>ou t v.2 fun l=>some (x::l))];cases Bw s v.1 some with
  | none=>rfl
  | some x=>
   simp only [Option.bind];rw [xa t v.2,xa t v.2 (fun l=>some (x::l))];cases ou t v.2 some<;>rfl
theorem Bu {R:Type} (s:DS) (v:s.T) (K:C→Option R):w9 s v K=(w9 s v some).bind K:=by
 cases s<;>simp only [w9,Option.bind];case sl sz=>obtain ⟨t,rows⟩:=v;cases t<;>rfl
theorem Bx {R:Type} (s:VS) (v:s.T) (K:V→Option R):sd s v K=(sd s v some).bind K:=by
 cases s with
 | one s=>simp only [sd];rw [Bu,Bu s v (fun y=>some (V.one y))];cases w9 s v some<;>rfl
 | fj=>cases v<;>rfl
 | agg ds=>simp only [sd];rw [xa,xa ds v (fun l=>some (V.agg (l.map .d)))];cases ou ds v some<;>rfl
theorem By {R:Type}:(ss:List VS)→(v:yN ss)→(K:List V→Option R)→tQ ss v K=(tQ ss v some).bind K
 | [],_,_=>rfl
 | s::t,v,K=>by
  simp only [tQ];rw [Bx s v.1,Bx s v.1 (fun x=>tQ t v.2 fun l=>some (x::l))];cases sd s v.1 some with
  | none=>rfl
  | some x=>
   simp only [Option.bind];rw [By t v.2,By t v.2 (fun l=>some (x::l))];cases tQ t v.2 some<;>rfl
theorem Bv {R:Type}:(ds:List DS)→(v:au ds)→(K:List C→Option R)→tO ds v K=(tO ds v some).bind K
 | [],_,_=>rfl
 | s::t,v,K=>by
  simp only [tO];rw [Bu s v.1,Bu s v.1 (fun x=>tO t v.2 fun l=>some (x::l))];cases w9 s v.1 some with
  | none=>rfl
  | some x=>
   simp only [Option.bind];rw [Bv t v.2,Bv t v.2 (fun l=>some (x::l))];cases tO t v.2 some<;>rfl
theorem u9 {R:Type}:(ss:List (List DS))→(v:yK ss)→(K:List (List C)→Option R)→pk ss v K=(pk ss v some).bind K
 | [],_,_=>rfl
 | s::t,v,K=>by
  simp only [pk];rw [Bv s v.1,Bv s v.1 (fun l=>pk t v.2 fun u=>some (l::u))];cases tO s v.1 some with
  | none=>rfl
  | some x=>
   simp only [Option.bind];rw [u9 t v.2,u9 t v.2 (fun u=>some (x::u))];cases pk t v.2 some<;>rfl
theorem XA {R:Type} (s:RS) (v:s.T) (K:V×List (List C)→Option R):qT s v K=(qT s v some).bind K:=by
 cases s with
 | val s bs=>
  simp only [qT];rw [Bx s v.1,Bx s v.1 (fun a=>pk bs v.2 fun b=>some (a,b))];cases sd s v.1 some with
  | none=>rfl
  | some x=>
   simp only [Option.bind];rw [u9,u9 bs v.2 (fun b=>some (x,b))];cases pk bs v.2 some<;>rfl
 | aq ss bs=>
  simp only [qT];rw [By ss v.1,By ss v.1 (fun a=>pk bs v.2 fun b=>some (V.aq a,b))];cases tQ ss v.1 some with
  | none=>rfl
  | some x=>
   simp only [Option.bind];rw [u9,u9 bs v.2 (fun b=>some (V.aq x,b))];cases pk bs v.2 some<;>rfl
def Q.row (ds:List DS) (l:List D):Q (List D):=
 .oo (fun _ k=>cF ds l fun v=>ou ds v k)
  (by intro R k;unfold cF;cases dS ds l with | none=>rfl | some v=>exact xa ds v k) .ret
def Q.res (s:RS) (o:Option (V×List (List C))):Q (V×List (List C)):=
 .oo (fun _ k=>aG s o fun v=>qT s v k)
  (by
    intro R k
    unfold aG
    cases o with
    | none => rfl
    | some x =>
      simp only
      cases ik s x with
      | none => rfl
      | some v => exact XA s v k) .ret
def sS {α:Type}:List (Nat×α)→Nat→Option α
 | [],_=>none
 | (i,x)::t,n=>match Nat.beq i n with | true=>some x | false=>sS t n
def ae (n:Nat):Int:=n
def cp (n:Int):Option Nat:=if 0≤n then some n.toNat else none
def bX (R:List (List D)) (i c:Nat) (z:D):List (List D):=R.set i ((R.getD i []).set c z)
def whole (R:List (List D)):List (List D):=List.take R.length (List.drop 0 R)
def gd {R:Type} (b:Bool) (x:Option R):Option R:=bif b then x else none
def aN {R:Type} (n:Nat) (x:Option R):Option R:=bif decide (n≤9223372036854775807) then x else none
def rA {R:Type} (ds:List DS) (c n:Nat) (L:List (List D)) (i:Nat) (K:au ds→Option R):Option R:=
 aH L[i]? fun o=>bif decide (n≤(List.drop c o).length) then cF ds (List.take n (List.drop c o)) K else none
def An {R:Type} (x y:Option R):Option R:=match x with | some r=>some r | none=>y
def cC:(s:DS)→s.T→C
 | .int k,n=>.d (.int k n)
 | .bool,b=>.d (.bool b)
 | .str,s=>.d (.str s)
 | .im sz,x=>.d (.sl (.im x.1) sz x.2)
 | .own sz,x=>.d (.sl .own sz x)
 | .sl sz,x=>.d (.sl x.1 sz x.2)
 | .tg sz,x=>.d (.sl x.1 sz x.2)
 | .bt t,_=>.bt t
 | .lp f l,_=>.fn f [] (w4 l)
 | .ptr i c,_=>.ptr (.e i) 0 c
 | .cE,_=>.cE
 | .eW,_=>.eW
 | .dead,_=>.d .dead
 | .any,x=>.d x
def bx:(ds:List DS)→au ds→List C
 | [],_=>[]
 | s::t,v=>cC s v.1::bx t v.2
def T4 (ds:List DS) (c:List C):Option (au ds):=y7 ds c
structure iS where
 row:Nat→Option (List DS)
 res:Nat→Option RS
 JQ:Nat→Nat→Bool
 no:Nat→Bool
def shD (im:Bool):D→Option DS
 | .int k _=>some (.int k)
 | .bool _=>some .bool
 | .str _=>some .str
 | .sl _ sz _=>some (if im then .im sz else .tg sz)
 | .dead=>some .dead
def AE (im:Nat→Bool):Nat→List C→Option (List DS)
 | _,[]=>some []
 | i,.bt k::t=>match AE (fun _=>false) (i+1) t with
  | some b=>some (.bt k::b)
  | none=>none
 | i,.fn f [] cap::t=>match Iu cap,AE im (i+1) t with
  | some l,some b=>some (.lp f l::b)
  | _,_=>none
 | i,.ptr (.e j) _ c::t=>match AE im (i+1) t with
  | some b=>some (.ptr j c::b)
  | none=>none
 | i,.cE::t=>match AE im (i+1) t with
  | some b=>some (.cE::b)
  | none=>none
 | i,.eW::t=>match AE im (i+1) t with
  | some b=>some (.eW::b)
  | none=>none
 | i,.d x::t=>match shD (im i) x,AE im (i+1) t with
  | some a,some b=>some (a::b)
  | _,_=>none
 | _,_::_=>none
def adb (JQ:Nat→Nat→Bool):List (List C)→Option (List (List DS))
 | []=>some []
 | b::t=>match AE (JQ b.length) 0 b,adb JQ t with
  | some x,some y=>some (x::y)
  | _,_=>none
def RS.aqV:RS→List (List DS)→RS
 | .val v _,bs=>.val v bs
 | .aq vs _,bs=>.aq vs bs
def Dx (an:iS) (dst:Nat) (l:List D):Q (List D):=
 match an.row dst with
 | some ds=>Q.row ds l
 | none=>pure l
def RS.boxes:RS→List (List DS)
 | .val _ bs=>bs
 | .aq _ bs=>bs
def S5 (an:iS) (f:Nat) (bs:List (List C)) (o:Option (V×List (List C))):Q (V×List (List C)):=
 match an.no f with
 | true=>Q.no
 | false=>match an.res f with
  | some s=>match s.boxes with
   | _::_=>Q.res s o
   | []=>match adb an.JQ bs with
    | some b=>Q.res (s.aqV b) o
    | none=>Q.dq o
  | none=>Q.dq o
def X8 (vs:List V):DS→DS
 | .lp f []=>match Nat.beq f kN,vs with
  | true,.one (.fn _ _ cap)::_=>match Iu cap with
   | some l=>.lp f l
   | none=>.lp f []
  | _,_=>.lp f []
 | d=>d
def aiE (vs:List V):RS→RS
 | .val v bs=>.val v (bs.map fun b=>b.map (X8 vs))
 | .aq v bs=>.aq v (bs.map fun b=>b.map (X8 vs))
def iS.aiK (an:iS) (vs:List V):iS:={ an with res:=fun f=>(an.res f).map (aiE vs) }
def Oh (an:iS) (Cl:bW) (dst:Nat) (f:Nat) (vs:List V) (ws:List Wr):Q (V×List Wr):=do
 xM ws (tu vs)
 let (rs,bs) ←zi ws 40 (rZ [] (tu vs)) 0
 let eR ←Q.dq (uj rs vs)
 let dJ ←Q.dq (pB rs bs)
 let (r,out) ←S5 (an.aiK eR) f dJ (Cl f eR dJ)
 if rs.isEmpty&&r.flat&&out.isEmpty then pure (r,[])
 else do
  let gs ←BM rs
  if out.length=rs.length then do
   let r' ←Q.dq (r.pG gs)
   let cK ←Q.dq (rn gs out)
   Q.guard (sR cK bs)
   pure (r',jG rs cK bs ws)
  else do
   let e ←r5 ws (.r (.l dst))
   let EP:=gs++[(.l dst,e.g+1)]
   let r' ←Q.dq (r.pG EP)
   let cK ←Q.dq (rn EP out)
   let nb:=cK.getD rs.length []
   Q.guard (out.length==rs.length+1&&sR (cK.take rs.length) bs&&(cm e.v==0||cm e.v==nb.length) && !rs.contains (.l dst))
   pure (r',gf (.l dst) 0 nb ({ k:=.r (.l dst),v:=fw nb.length } :: jG rs cK bs ws))
def NS (tc:TC) (op:BinOp) (x y:V):Q D:=
 match x,y with
 | .one (.d (.int k a)),.one (.d (.int k' b))=>
  match op with
  | .quo=>do Q.guard (decide (k=k') && !decide (b=0));pure (.int k (k.wrap (a.tdiv b)))
  | .rem=>do Q.guard (decide (k=k') && !decide (b=0));pure (.int k (a.tmod b))
  | .shl=>do Q.guard (!decide (b < 0));pure (.int k (k.wrap (a * 2 ^ (Min.min b.toNat k.bits))))
  | .shr=>do Q.guard (!decide (b < 0));pure (.int k (a.fdiv (2 ^ (Min.min b.toNat k.bits))))
  | _=>Q.dq (r6 tc op x y)
 | .one (.d (.str a)),.one (.d (.str b))=>
  match op with
  | .add=>do Q.guard (decide (a.length+b.length≤9223372036854775807));pure (.str (a++b))
  | _=>Q.dq (r6 tc op x y)
 | _,_=>Q.dq (r6 tc op x y)
def A7 (sz bytes:Nat) (v:V) (ws:List Wr) (src:List (List D)):Q (V×List Wr):=
 match v with
 | .one (.d (.sl (.im b) cw _))=>do
  Q.guard (fR bytes src false&&(b&&cw==sz&&decide (src.length * bytes≤140737488355328)))
  let e ←Q.ask src.isEmpty
  pure (.one (.d (.sl (if e then .im true else .own) sz src)),ws)
 | v=>wS sz bytes v ws src
def EB (pl:Place) (i:Nat):V→Nat→List D→List D→D→List Wr→List Wr
 | v,c,z::t,o::os,x,ws=>
  EB pl i (v.setCell pl.j (.d (eF x (pl.p++[(i,c)]) z))) (c+1) t os (eF x (pl.p++[(i,c)]) z)
   ({ k:=pl.k,v:=v.setCell pl.j (.d (eF x (pl.p++[(i,c)]) z)),keep:=z.flat&&o.flat } :: { k:=.a pl.k,v:=V.dead } :: ws)
 | _,_,_,_,_,ws=>ws
def TG (ws:List Wr) (P:Place):C→Q (C×List Wr)
 | .view pl g sz off len=>
  match !(pl.k==P.k)&&pl.k.Gz with
  | true=>do
   let (e,x,rows) ←jw ws pl g sz
   Q.guard (off==0&&len==rows.length && !rows.isEmpty)
   pure (.d (.sl .own sz rows),nj ws pl.k (sN e.v pl x))
  | false=>ta ws P (.view pl g sz off len)
 | c=>ta ws P c
def ace (mv:Bool) (ws:List Wr) (P:Place) (y:C):Q (C×List Wr):=if mv then TG ws P y else oU ws P y
def Mf (mv:Bool) (r:aI) (ws:List Wr):Nat→List C→Q (List C×List Wr)
 | _,[]=>pure ([],ws)
 | c,y::t=>do
  let (y',ws) ←ace mv ws ⟨.b r c,0,[]⟩ y
  let (ys,ws) ←Mf mv r ws (c+1) t
  pure (y'::ys,ws)
def Bp:List (Nat×Nat)→List (Nat×Nat)→Bool
 | [],[]=>true
 | (_,c)::p,(_,c')::p'=>Nat.beq c c'&&Bp p p'
 | _,_=>false
def FN:List (Nat×Nat)→List (Nat×Nat)→Bool
 | [],[]=>true
 | (i,_)::p,(i',_)::p'=>FN p p'&&Nat.beq i i'
 | _,_=>false
def TD (ws:List Wr) (P:Place):C→Q (C×List Wr)
 | .c7 pl g a sz rows=>match (pl.k==P.k)&&(Nat.beq pl.j P.j&&Bp pl.p P.p) with
  | true=>do
   Q.guard (FN pl.p P.p)
   settle ws pl g a sz rows
  | false=>oU ws P (.c7 pl g a sz rows)
 | c=>oU ws P c
def I3 (P:Place) (i:Nat) (ws:List Wr):Nat→List C→Q (List D×List Wr)
 | _,[]=>pure ([],ws)
 | c,y::t=>do
  let (y',ws) ←TD ws (P.sub i c) y
  match y' with
  | .d z=>do
   let (zs,ws) ←I3 P i ws (c+1) t
   pure (z::zs,ws)
  | _=>Q.no
def ME:X→Nat
 | .s i=>i
 | .t i=>i
 | _=>0
def sh (an:iS) (Cl:bW) (dst:Nat):oY→Q (V×List Wr)
 | .pick c a b=>do
  let v ←rd c
  match v with
  | .one (.d (.bool t))=>do
   let t ←Q.ask t
   let r ←rd (if t then a else b)
   pure (r,[])
  | _=>Q.no
 | .load n agg x=>do
  let v ←rd x
  match v with
  | .one (.ptr r g c)=>do
   let e ←Q.at_ (.r r)
   Q.guard (!r.iX&&e.g==g&&decide (c+n≤cm e.v))
   let cs ←wh r c n
   let r' ←lQ agg cs
   pure (r',[])
  | .one (.pp cells)=>do
   Q.guard (decide (n≤cells.length))
   let l ←Dx an dst (cells.take n)
   let r' ←lQ agg (l.map .d)
   pure (r',[])
  | .one (.eD pl g sz i c)=>do
   let (_,_,rows) ←jw [] pl g sz
   let row ←Q.dq rows[i]?
   Q.guard (decide (c+n≤row.length))
   let l ←Dx an dst ((row.drop c).take n)
   let r' ←lQ agg (rh pl g i c l)
   pure (r',[])
  | .one (.fn t f l)=>do
   let l ←Q.dq (BJ (kN+1) (.fn t f l))
   Q.guard (l.length==n)
   let r' ←lQ agg l
   pure (r',[])
  | _=>Q.no
 | .store mv n x v=>do
  let p ←rd x
  let (vv,ws) ←tk [] v
  Q.guard (vv.cells.length==n)
  match p with
  | .one (.ptr r g c)=>do
   let (cs,ws) ←Mf mv r ws c vv.cells
   let e ←r5 ws (.r r)
   Q.guard (!r.iX&&e.g==g&&decide (c+n≤cm e.v))
   pure (.aq [],gf r c cs ws)
  | .one (.eD pl g sz i c)=>do
   let (zs,ws) ←I3 pl i ws c vv.cells
   let (e,x0,rows) ←jw ws pl g sz
   let row ←Q.dq rows[i]?
   Q.guard (decide (c+n≤row.length)&&zs.length==n)
   let dH ←Dx an (ME x) ((row.drop c).take n)
   Q.guard (dH.length==n&&Hp zs dH)
   pure (.aq [],EB pl i e.v c zs dH x0 ws)
  | _=>Q.no
 | .bin tc op x y=>do
  let a ←rd x
  let b ←rd y
  let r ←NS tc op a b
  pure (.one (.d r),[])
 | .app sz bytes x y=>do
  let (a,ws) ←tk [] y
  let (src,ws) ←rowsOf sz ws a
  let (v,ws) ←tk ws x
  A7 sz bytes v ws src
 | .A8 sz bytes x y=>do
  let a ←rd y
  match a with
  | .one (.view pl g cw off len)=>do
   let (_,_,rows) ←jw [] pl g cw
   Q.guard (cw==sz&&decide (off+len≤rows.length)&&sj ((rows.drop off).take len))
   let (v,ws) ←tk [] x
   A7 sz bytes v ws ((rows.drop off).take len)
  | _=>do
   let (a,ws) ←tk [] y
   let (src,ws) ←rowsOf sz ws a
   let (v,ws) ←tk ws x
   A7 sz bytes v ws src
 | .A6 x y=>do
  let a ←rd y
  match a with
  | .one (.d (.str s))=>do
   let (v,ws) ←tk [] x
   A7 1 1 v ws (D.db s)
  | _=>Q.no
 | .call f args=>do
  let vf ←rd f
  match vf with
  | .one (.fn n first cap)=>do
   Q.guard (zS n)
   let (vs,ws) ←yh [] args
   Oh an Cl dst n (first.map .one++vs++cap.map .one) ws
  | _=>Q.no
 | op=>bp Cl dst op
def IY {R:Type}:Nat→Nat→Nat→(Nat→Option R)→Option R
 | 0,_,_,_=>none
 | f+1,i,g,K=>match Nat.beq g i with | true=>K i | false=>IY f (i+1) g K
def fN {R:Type} (g:Nat) (K:Nat→Option R):Option R:=IY 400 0 g K
def IZ {R:Type}:aI→(aI→Option R)→Option R
 | .e i,K=>K (.e i)
 | .l i,K=>K (.l i)
 | .g i,K=>K (.g i)
def IX {R:Type}:Key→(Key→Option R)→Option R
 | .s i,K=>K (.s i)
 | .b r c,K=>IZ r fun r=>fN c fun c=>K (.b r c)
 | .r r,K=>IZ r fun r=>K (.r r)
 | .h i,K=>K (.h i)
 | .a k,K=>IX k fun k=>K (.a k)
def fD {R:Type}:D→(D→Option R)→Option R
 | .int k n,K=>K (.int k n)
 | .bool b,K=>K (.bool b)
 | .str s,K=>K (.str s)
 | .sl t sz rows,K=>K (.sl t sz rows)
 | .dead,K=>K .dead
def fC {R:Type}:C→(C→Option R)→Option R
 | .d x,K=>fD x fun x=>K (.d x)
 | .ptr r g c,K=>IZ r fun r=>fN g fun g=>fN c fun c=>K (.ptr r g c)
 | .eD pl g sz i c,K=>fN g fun g=>fN c fun c=>K (.eD pl g sz i c)
 | .view pl g sz off len,K=>fN g fun g=>K (.view pl g sz off len)
 | .c7 pl g a sz rows,K=>fN g fun g=>fN a fun a=>K (.c7 pl g a sz rows)
 | .pp cells,K=>K (.pp cells)
 | .fn f a b,K=>K (.fn f a b)
 | .cE,K=>K .cE
 | .eW,K=>K .eW
 | .fQ,K=>K .fQ
 | .fj,K=>K .fj
 | .bt t,K=>K (.bt t)
 | .mp x,K=>fD x fun x=>K (.mp x)
 | .gk i g,K=>fN g fun g=>K (.gk i g)
 | .dead,K=>K .dead
def BE {R:Type}:List C→(List C→Option R)→Option R
 | [],K=>K []
 | c::t,K=>fC c fun c=>BE t fun t=>K (c::t)
def ze {R:Type}:List V→(List V→Option R)→Option R
 | [],K=>K []
 | .one c::t,K=>fC c fun c=>ze t fun t=>K (.one c::t)
 | .agg cs::t,K=>BE cs fun cs=>ze t fun t=>K (.agg cs::t)
 | .aq vs::t,K=>ze t fun t=>K (.aq vs::t)
def fV {R:Type}:V→(V→Option R)→Option R
 | .one c,K=>fC c fun c=>K (.one c)
 | .agg cs,K=>BE cs fun cs=>K (.agg cs)
 | .aq vs,K=>ze vs fun vs=>K (.aq vs)
def IV {R:Type}:List (List C)→(List (List C)→Option R)→Option R
 | [],K=>K []
 | c::t,K=>BE c fun c=>IV t fun t=>K (c::t)
def X0 {R:Type}:Bool→(Bool→Option R)→Option R
 | true,K=>K true
 | false,K=>K false
def I2 {R:Type}:List Wr→(List Wr→Option R)→Option R
 | [],K=>K []
 | ⟨k,v,b⟩::t,K=>IX k fun k=>fV v fun v=>X0 b fun b=>I2 t fun t=>K (⟨k,v,b⟩::t)
def BF {R:Type}:St→(St→Option R)→Option R
 | [],K=>K []
 | (k,⟨v,g⟩)::t,K=>IX k fun k=>fV v fun v=>fN g fun g=>BF t fun t=>K ((k,⟨v,g⟩)::t)
def I0 {R:Type}:St→(St→Option R)→Option R
 | [],K=>K []
 | (k,⟨v,g⟩)::t,K=>fN g fun g=>I0 t fun t=>K ((k,⟨v,g⟩)::t)
def runK {α R:Type} (S:St):Q α→List Key→(α→List Key→Option R)→Option R
 | .ret a,rs,K=>K a rs
 | .get k f,rs,K=>runK S (f (S.get k)) (k::rs) K
 | .oo h _ f,rs,K=>h R fun b=>runK S (f b) rs K
 | .no,_,_=>none
def Um {R:Type} (S:St) (g:Option (Nat×Bool)) (K:Bool→St→List Key→Option R):Option R:=
 match g with
 | none=>K true S []
 | some (t,b)=>match S.get (.s t) with
  | ⟨.one (.d (.bool x)),c⟩=>GY x fun x'=>K (x'==b) (S.put (.s t) ⟨.one (.d (.bool x')),c⟩) [.s t]
  | ⟨.aq [],_⟩=>K false S [.s t]
  | _=>none
def BA {R:Type} (r:aI):Nat→Nat→St→(St→Option R)→Option R
 | 0,_,S,K=>K S
 | n+1,c,S,K=>match S.get (.b r c) with
  | ⟨.one (.d (.sl t sz rows)),g⟩=>SK t fun t'=>BA r n (c+1) (S.put (.b r c) ⟨.one (.d (.sl t' sz rows)),g⟩) K
  | _=>BA r n (c+1) S K
def EJ {R:Type} (n:Nat) (v:V) (S:St) (K:St→Option R):Option R:=
 match v with
 | .one (.ptr r _ c)=>BA r n c S K
 | _=>K S
def O6 {R:Type} (op:oY) (S:St) (K:St→Option R):Option R:=
 match op with
 | .load n _ (.s i)=>EJ n (S.get (.s i)).v S K
 | .load n _ (.t i)=>EJ n (S.get (.s i)).v S K
 | _=>K S
def EI {R:Type}:List RV→St→(St→Option R)→Option R
 | [],S,K=>K S
 | .cell t n _::l,S,K=>EJ n (S.get (.s t)).v S fun S=>EI l S K
 | .slot _::l,S,K=>EI l S K
def IT {R:Type} (an:iS) (Cl:bW) (o:gB) (S:St) (K:St→List Key→List Wr→Option R):Option R:=
 Um S o.guard fun want S rs=>
  match want with
  | true=>O6 o.op S fun S=>runK S (sh an Cl (o.dst.getD 0) o.op) rs fun x rs=>
   match o.dst with
   | some d=>K S rs ({ k:=.s d,v:=x.1 } :: x.2)
   | none=>K S rs x.2
  | false=>match o.dst with
   | some d=>K S rs [{ k:=.s d,v:=.aq [] }]
   | none=>K S rs []
def EE {R:Type} (an:iS) (Cl:bW):List gB→St→(St→Option R)→Option R
 | [],S,K=>K S
 | o::t,S,K=>IT an Cl o S fun S _ ws=>I2 ws fun ws=>I0 (S.ah ws) fun S=>EE an Cl t S K
def EF {R:Type} (an:iS) (Cl:bW):List gB→St→List lK→(St→List lK→Option R)→Option R
 | [],S,fs,K=>K S fs.reverse
 | o::t,S,fs,K=>IT an Cl o S fun S rs ws=>I2 ws fun ws=>I0 (S.ah ws) fun S=>EF an Cl t S (⟨rs.reverse,ws.map (·.k)⟩::fs) K
def St.mC (keep:Option (List Nat)) (gc:Bool) (S:St):Option St:=
 (match keep with | some l=>S.norm l | none=>some S).bind fun S1=>if gc then S1.gc else some S1
def OM {R:Type} (an:iS) (Cl:bW) (ops:List gB) (draw:Option (List (Nat×Nat))) (S:St) (K:St→Option R):Option R:=
 match draw with
 | none=>EE an Cl ops S K
 | some []=>EE an Cl ops S K
 | some ps=>EF an Cl ops S [] fun S' fs=>match Sq fs ps with | true=>K S' | false=>none
inductive jE where
 | skip
 | ja (keep:Option (List Nat)) (gc:Bool) (ops:List gB) (draw:Option (List (Nat×Nat)))
 | seq (a b:jE)
 | cond (c:X) (a b:jE)
 | block (id:Nat) (body:jE)
 | loop (id:Nat) (keep:Option (List Nat)) (gc:Bool) (body:jE)
 | join (id:Nat) (keep:Option (List Nat)) (gc:Bool) (a b:jE)
 | exit (id:Nat)
 | ret
 deriving Inhabited
def kH (keep:Option (List Nat)) (gc:Bool):lY→lY
 | .ja _ _ ops draw=>.ja keep gc ops draw
 | .seq a b=>.seq (kH keep gc a) b
 | .block id b=>.block id (kH keep gc b)
 | c=>c
def jE.B4:jE→Bool
 | .ja none false _ _=>true
 | .seq a _=>a.B4
 | .join _ _ _ a _=>a.B4
 | .block _ b=>b.B4
 | _=>false
def eL:jE→lY
 | .skip=>.skip
 | .ja keep gc ops draw=>.ja keep gc ops draw
 | .seq a b=>.seq (eL a) (eL b)
 | .cond c a b=>.cond c (eL a) (eL b)
 | .block id b=>.block id (eL b)
 | .loop _ keep gc b=>.loop (kH keep gc (eL b))
 | .join _ keep gc a b=>.seq (eL a) (kH keep gc (eL b))
 | .exit id=>.exit id
 | .ret=>.ret
abbrev kG (R:Type):=tI→St→Option R
def DB {R:Type} (f:St→kG R→Option R) (K:kG R):kG R:=fun e S=>
 match e with
 | .norm=>f S K
 | .exit i=>K (.exit i) S
 | .ret=>K .ret S
def NU {R:Type} (id:Nat) (K:kG R):kG R:=fun e S=>
 match e with
 | .norm=>K .norm S
 | .exit i=>match Nat.beq i id with | true=>K .norm S | false=>K (.exit i) S
 | .ret=>K .ret S
def RX {R:Type} (keep:Option (List Nat)) (gc:Bool) (next:St→Option R) (K:kG R):kG R:=fun e S=>
 match e with
 | .norm=>match S.mC keep gc with | some S1=>BF S1 next | none=>none
 | .exit i=>K (.exit i) S
 | .ret=>K .ret S
def Cu {R:Type} (id:Nat) (f:St→kG R→Option R) (keep:Option (List Nat)) (gc:Bool):Nat→St→kG R→Option R
 | 0,_,_=>none
 | m+1,S,K=>f S (RX keep gc (fun S1=>Cu id f keep gc m S1 K) K)
def Rb {R:Type} (id:Nat) (f:St→kG R→Option R):Nat→St→kG R→Option R
 | 0,_,_=>none
 | _+1,S,K=>f S K
def Q9 {R:Type} (id:Nat) (keep:Option (List Nat)) (gc:Bool) (m:Nat) (f:St→kG R→Option R):St→kG R→Option R:=fun S K=>
 match S.mC keep gc with
 | some S1=>BF S1 fun S1=>Rb id f m S1 K
 | none=>none
def Oy {R:Type} (S:St) (c:X) (K:Bool→St→Option R):Option R:=
 match c with
 | .s i=>match S.get (.s i) with
  | ⟨.one (.d (.bool b)),g⟩=>GY b fun t=>K t (S.put (.s i) ⟨.one (.d (.bool t)),g⟩)
  | _=>none
 | c=>runK S (rd c) [] fun v _=>match v with
  | .one (.d (.bool b))=>GY b fun t=>K t S
  | _=>none
def kM {R:Type} (an:iS) (Cl:bW) (n:Nat):jE→St→kG R→Option R
 | .skip,S,K=>K .norm S
 | .ja keep gc ops draw,S,K=>match S.mC keep gc with
  | some S1=>BF S1 fun S1=>OM an Cl ops draw S1 fun S'=>K .norm S'
  | none=>none
 | .seq a b,S,K=>kM an Cl n a S (DB (kM an Cl n b) K)
 | .cond c a b,S,K=>Oy S c fun t S=>match t with
  | true=>kM an Cl n a S K
  | false=>kM an Cl n b S K
 | .block id b,S,K=>kM an Cl n b S (NU id K)
 | .loop id keep gc b,S,K=>match b.B4 with
  | true=>match S.mC keep gc with
   | some S1=>BF S1 fun S1=>Cu id (kM an Cl n b) keep gc n S1 K
   | none=>none
  | false=>none
 | .join id keep gc a b,S,K=>match b.B4 with
  | true=>kM an Cl n a S (DB (Q9 id keep gc n (kM an Cl n b)) K)
  | false=>none
 | .exit id,S,K=>K (.exit id) S
 | .ret,S,K=>K .ret S
structure uW where
 C7:Nat
 results:List RV
 body:jE
 forget:Bool
 deriving Inhabited
def uW.fn (k:uW):ll:=⟨k.C7,k.results,eL k.body,k.forget⟩
def S9 (results:List RV) (forget:Bool) (bx:List (List C)):kG (V×List (List C)):=fun e S=>
 match e with
 | .exit _=>none
 | _=>EI results S fun S=>runK S (ve ⟨0,results,.skip,forget⟩ bx) [] fun x _=>fV x.1 fun v=>IV x.2 fun b=>some (v,b)
def ED (an:iS) (Cl:bW) (n:Nat) (fn:uW) (args:List V) (bx:List (List C)):Option (V×List (List C)):=
 match Nat.ble args.length fn.C7 with
 | true=>kM an Cl n fn.body (ga 0 args++dk 0 bx) (S9 fn.results fn.forget bx)
 | false=>none
end
section
inductive bQ where
 | bh
 | row (pl:Place) (o:Nat)
 | box (r:aI) (o:Nat)
abbrev aw:=Nat→Option bQ
def jC (n:Nat) (fz:Nat×Nat):Prop:=∀j,j < n→¬ (fz.1≤j∧j < fz.2)
def cellOf (rows:List (List D)) (i c:Nat):Option D:=(rows[i]?).bind (·[c]?)
theorem kL {rows:List (List D)} {i c:Nat} {x:D}:cellOf rows i c=some x↔∃r,rows[i]? = some r∧r[c]? = some x:=by
 unfold cellOf;cases rows[i]?<;>simp
inductive fK (w:World) (L:aw):D→Value→Prop where
 | int {k n}:fK w L (.int k n) (.int k n)
 | bool {b}:fK w L (.bool b) (.bool b)
 | str {s}:fK w L (.str s) (.string ⟨s.toArray⟩)
 | nil {sz}:fK w L (.sl (.im true) sz []) (.slice none 0 0)
 | mB {sz a cap}:fK w L (.sl (.im false) sz []) (.slice (some a) 0 cap)
 | dead {v} (h:v.oneCell'=true):fK w L .dead v
 | pl {sz rows B o cap cur e fz} (val:Nat→Nat→Value) (aB:rows≠[]) (aZ:0 < sz) (dL:rows.length≤cap) (hL:L B=some .bh)
  (hB:w.heap[B]? = some (.cells cur e fz)) (hlen:∀r∈rows,r.length=sz)
  (hv:∀i c x,cellOf rows i c=some x→cur[o+i * sz+c]? = some (val i c))
  (hr:∀i c x,cellOf rows i c=some x→fK w L x (val i c)) :
  fK w L (.sl (.im false) sz rows) (.slice (some ⟨B,o,none⟩) rows.length cap)
def tK (rows:List (List D)) (e:Nat):Prop:=(lS rows=false∨rows=[])→e=5
inductive br (w:World) (L:aw):Place→D→Value→Prop where
 | plain {pl x v} (h:fK w L x v):br w L pl x v
 | jm {pl sz a}:br w L pl (.sl .own sz []) (.slice (some a) 0 0)
 | own {pl sz rows B o cap cur e fz} (val:Nat→Nat→Value) (aZ:0 < sz) (hL:L B=some (.row pl o))
  (hB:w.heap[B]? = some (.cells cur e fz)) (cX:jC cur.size fz) (hlen:∀r∈rows,r.length=sz)
  (dL:rows.length≤cap) (dG:o+cap * sz≤cur.size)
  (hv:∀i c x,cellOf rows i c=some x→cur[o+i * sz+c]? = some (val i c))
  (hr:∀i c x,cellOf rows i c=some x→br w L (pl.sub i c) x (val i c)) (hu:tK rows e) :
  br w L pl (.sl .own sz rows) (.slice (some ⟨B,o,none⟩) rows.length cap)
theorem fK.vZ {w:World} {L:aw} {x:D} {v:Value} (h:fK w L x v):v.oneCell'=true:=by
 cases h<;>first | rfl | assumption
theorem br.vZ {w:World} {L:aw} {pl:Place} {x:D} {v:Value} (h:br w L pl x v):v.oneCell'=true:=by
 cases h with
 | plain h=>exact h.vZ
 | jm=>rfl
 | own=>rfl
def rW (w w':World) (L L':aw):Prop:=∀B,L B=some .bh→L' B=some .bh∧w'.heap[B]? = w.heap[B]?
theorem fK.mono {w w':World} {L L':aw} (fT:rW w w' L L') {x:D} {v:Value} (h:fK w L x v):fK w' L' x v:=by
 induction h with
 | int=>exact .int
 | bool=>exact .bool
 | str=>exact .str
 | nil=>exact .nil
 | mB=>exact .mB
 | dead h=>exact .dead h
 | pl val aB aZ dL hL hB hlen hv hr ih=>exact .pl val aB aZ dL (fT _ hL).1 ((fT _ hL).2.trans hB) hlen hv ih
theorem br.move {w w':World} {L L':aw} (f:Place→Place) (U:Place→Prop)
  (hU:∀q i c,U q→U (q.sub i c)) (hf:∀q i c,U q→f (q.sub i c)=(f q).sub i c)
  (fT:rW w w' L L')
  (df:∀B q o,U q→L B=some (.row q o)→L' B=some (.row (f q) o)∧w'.heap[B]? = w.heap[B]?)
  {pl:Place} {x:D} {v:Value} (h:br w L pl x v):U pl→br w' L' (f pl) x v:=by
 induction h with
 | plain h=>exact fun _=>.plain (h.mono fT)
 | jm=>exact fun _=>.jm
 | @own pl sz rows B o cap cur e fz val aZ hL hB cX hlen dL dG hv hr dY ih=>
  intro hu;obtain ⟨h1,h2⟩:=df B pl o hu hL;refine .own val aZ h1 (h2.trans hB) cX hlen dL dG hv ?_ dY;intro i c x hx;have:=ih i c x hx (hU _ _ _ hu);rwa [hf _ _ _ hu] at this
theorem Ao:∀r:List (List D),(aW r).length=r.length
 | []=>rfl
 | _::t=>by simp [aW,Ao t]
theorem abS:∀r:List D,Dk r=r.map kY
 | []=>rfl
 | _::t=>by simp [Dk,abS t]
theorem Dl:∀r:List (List D),aW r=r.map (·.map kY)
 | []=>rfl
 | _::t=>by simp [aW,Dl t,abS]
theorem Bl (rows:List (List D)) (i c:Nat):cellOf (aW rows) i c=(cellOf rows i c).map kY:=by
 simp only [cellOf,Dl,bO];cases rows[i]? with
 | none=>rfl
 | some r=>simp
theorem fK.aot {w:World} {L:aw} {x:D} {v:Value} (h:fK w L x v):kY x=x:=by
 cases h<;>simp [kY]
theorem br.freeze {w w':World} {L L':aw} (U:Place→Prop)
  (hU:∀q i c,U q→U (q.sub i c))
  (fT:rW w w' L L')
  (df:∀B q o,U q→L B=some (.row q o)→L' B=some .bh∧w'.heap[B]? = w.heap[B]?)
  {pl:Place} {x:D} {v:Value} (h:br w L pl x v):U pl→fK w' L' (kY x) v:=by
 induction h with
 | plain h=>intro _;rw [h.aot];exact h.mono fT
 | jm=>intro _;simp only [kY,aW];exact .mB
 | @own pl sz rows B o cap cur e fz val aZ hL hB cX hlen dL dG hv hr dY ih=>
  intro hu;obtain ⟨h1,h2⟩:=df B pl o hu hL;simp only [kY];rw [←Ao rows];cases vG:rows with
  | nil=>simp only [aW,jD];exact .mB
  | cons r0 t0=>
   rw [←vG];refine .pl val (by rw [vG];simp [aW]) aZ (by rw [Ao];exact dL) h1 (h2.trans hB) ?_ ?_ ?_
   ·intro r eU;rw [Dl] at eU;obtain ⟨r1,h3,rfl⟩:=iz.1 eU;simpa using hlen r1 h3
   ·intro i c x hx;rw [Bl] at hx;cases hc:cellOf rows i c with
    | none=>simp [hc] at hx
    | some y=>exact hv i c y hc
   ·intro i c x hx;rw [Bl] at hx;cases hc:cellOf rows i c with
    | none=>simp [hc] at hx
    | some y=>
     simp only [hc,fe,aj] at hx;subst hx;exact ih i c y hc (hU _ _ _ hu)
def Place.app (pl:Place) (p:List (Nat×Nat)):Place:={ pl with p:=pl.p++p }
theorem Place.A9 (pl:Place):pl.app []=pl:=by simp [Place.app]
theorem Place.qM (pl:Place) (i c:Nat) (p:List (Nat×Nat)):pl.app ((i,c)::p)=(pl.sub i c).app p:=by simp [Place.app,Place.sub]
theorem Place.Eg (pl:Place) (i c:Nat) (p:List (Nat×Nat)):pl.app (p++[(i,c)])=(pl.app p).sub i c:=by simp [Place.app,Place.sub]
theorem C6 {sz:Nat} {rows:List (List D)} {i c:Nat} {p:List (Nat×Nat)}:eu (.sl .own sz rows) ((i,c)::p)=(cellOf rows i c).bind (eu · p):=by
 simp [eu,cellOf]
theorem Ah {x y:D} {i c:Nat} {p:List (Nat×Nat)} (h:eu x ((i,c)::p)=some y):∃sz rows z,x = .sl .own sz rows∧cellOf rows i c=some z∧eu z p=some y:=by
 cases x with
 | sl t sz rows=>
  cases t with
  | own=>
   rw [C6] at h;cases hz:cellOf rows i c with
   | none=>simp [hz] at h
   | some z=>exact ⟨sz,rows,z,rfl,hz,by simpa [hz] using h⟩
  | im b=>simp [eu] at h
 | int=>simp [eu] at h
 | bool=>simp [eu] at h
 | str=>simp [eu] at h
 | dead=>simp [eu] at h
theorem br.nav {w:World} {L:aw}:∀(p:List (Nat×Nat)) {pl:Place} {x y:D} {v:Value},br w L pl x v→eu x p=some y→
  ∃u,br w L (pl.app p) y u
 | [],pl,x,y,v,h,hn=>by
  simp only [eu,aj] at hn;subst hn;rw [Place.A9];exact ⟨v,h⟩
 | (i,c)::p,pl,x,y,v,h,hn=>by
  obtain ⟨sz,rows,z,rfl,hz,hy⟩:=Ah hn;rw [Place.qM];cases h with
  | plain h=>cases h
  | jm=>simp [cellOf] at hz
  | own val aZ hL hB cX hlen dL dG hv hr dY=>exact br.nav p (hr i c z hz) hy
theorem br.nS {w:World} {L:aw} {pl:Place} {sz:Nat} {rows:List (List D)} {v:Value} (h:br w L pl (.sl .own sz rows) v) :
  (rows=[]∧∃a,v = .slice (some a) 0 0)∨
  ∃B o cap cur e fz,∃val:Nat→Nat→Value,v = .slice (some ⟨B,o,none⟩) rows.length cap∧0 < sz∧L B=some (.row pl o)∧
   w.heap[B]? = some (.cells cur e fz)∧jC cur.size fz∧(∀r∈rows,r.length=sz)∧rows.length≤cap∧o+cap * sz≤cur.size∧
   (∀i c x,cellOf rows i c=some x→cur[o+i * sz+c]? = some (val i c))∧
   (∀i c x,cellOf rows i c=some x→br w L (pl.sub i c) x (val i c))∧tK rows e:=by
 cases h with
 | plain h=>cases h
 | jm=>exact .inl ⟨rfl,_,rfl⟩
 | own val aZ hL hB cX hlen dL dG hv hr dY=>exact .inr ⟨_,_,_,_,_,_,val,rfl,aZ,hL,hB,cX,hlen,dL,dG,hv,hr,dY⟩
theorem Eu {rows:List (List D)} {i c:Nat} {dH:D} (h:cellOf rows i c=some dH) (z:D) (i' c':Nat) :
  cellOf (rows.set i ((rows.getD i []).set c z)) i' c'=if i'=i∧c'=c then some z else cellOf rows i' c':=by
 obtain ⟨r,hr,hc⟩:=kL.1 h;have hi:i < rows.length:=(cB.1 hr).1;have aR:c < r.length:=(cB.1 hc).1;have hg:rows.getD i []=r:=by rw [kC,hr];rfl
 rw [hg];unfold cellOf;rw [M9];by_cases h1:i=i'
 ·subst h1;simp only [bV,hi,lk,Option.bind_some,M9,hr];by_cases h2:c=c'
  ·subst h2;simp [aR]
  ·simp [h2,Ne.symm h2]
 ·simp [h1,Ne.symm h1]
theorem Tq {rows:List (List D)} {sz i c:Nat} {z:D} (hlen:∀r∈rows,r.length=sz):∀r∈rows.set i ((rows.getD i []).set c z),r.length=sz:=by
 intro r hr;by_cases hi:i < rows.length
 ·rcases UT hr with h | h
  ·exact hlen r h
  ·subst h;have hg:rows.getD i []=rows[i]:=by rw [kC,ke hi];rfl
   rw [yE,hg];exact hlen _ (bL hi)
 ·rw [List.set_eq_of_length_le (by omega)] at hr;exact hlen r hr
theorem vQ {rows:List (List D)}:lS rows=false↔rows≠[]∧∀r∈rows,tj r=true:=by
 cases rows with
 | nil=>simp [lS]
 | cons r t=>simp [lS]
theorem tK.set {rows:List (List D)} {e i c:Nat} {dH z:D} (h:tK rows e) (hc:cellOf rows i c=some dH) (hz:AJ z dH=true):tK (rows.set i ((rows.getD i []).set c z)) e:=by
 intro hn;obtain ⟨r,hr,qY⟩:=kL.1 hc;have hi:i < rows.length:=(cB.1 hr).1;have hn:lS (rows.set i ((rows.getD i []).set c z))=false:=hn.resolve_right fun e=>by
  have h3:=fW List.length e;rw [yE,jD] at h3;omega
 obtain ⟨h1,h2⟩:=vQ.1 hn;have hg:rows.getD i []=r:=by rw [kC,hr];rfl
 refine h (.inl (vQ.2 ⟨fun e=>by rw [e] at hi;simp at hi,fun q hq=>?_⟩));obtain ⟨k,hk⟩:=uM hq;by_cases qh:i=k
 ·subst qh;rw [hr] at hk;simp only [aj] at hk;subst hk;have:=h2 (r.set c z) (by rw [hg];exact fm (by rw [yC hi]));cases r with
  | nil=>simp at qY
  | cons d t=>
   cases t with
   | nil=>
    cases c with
    | zero=>
     simp at qY;subst qY;simp only [List.set,tj] at this ⊢;simp only [AJ,this,UD,UC] at hz;exact hz
    | succ c=>simp at qY
   | cons d2 t=>cases c with
    | zero=>simp [tj] at this
    | succ c=>cases c<;>simp [tj] at this
 ·exact h2 q (fm (by rw [qJ qh];exact hk))
theorem px (w:World) (a:Addr) (u:Value) (B:Nat) (h:B≠a.block):(w.setCell a u).heap[B]? = w.heap[B]?:=by
 simp only [World.setCell,AU];rw [az (fun e=>h e.symm)]
theorem xk (w:World) (B j:Nat) (u:Value) {cur:Array Value} {e:TypeId} {fz:Nat×Nat} (h:w.heap[B]? = some (.cells cur e fz)) :
  (w.setCell ⟨B,j,none⟩ u).heap[B]? = some (.cells (cur.setIfInBounds j u) e fz):=by
 simp [World.setCell,AU,h]
theorem aj4 {sz i c i' c':Nat} (hc:c < sz) (lL:c' < sz) (h:¬ (i'=i∧c'=c)):i * sz+c≠i' * sz+c':=by
 intro e;apply h;have h1:(i * sz+c) / sz=i:=by rw [HO,Nat.mul_add_div (by omega)];rw [Nat.div_eq_of_lt hc];rfl
 have h2:(i' * sz+c') / sz=i':=by rw [HO,Nat.mul_add_div (by omega)];rw [Nat.div_eq_of_lt lL];rfl
 have:i=i':=by rw [←h1,←h2,e]
 subst this;exact ⟨rfl,by omega⟩
theorem oj {rows:List (List D)} {sz i c:Nat} {x:D} (hlen:∀r∈rows,r.length=sz) (h:cellOf rows i c=some x):i < rows.length∧c < sz:=by
 obtain ⟨r,hr,hc⟩:=kL.1 h;obtain ⟨hi,rfl⟩:=cB.1 hr;refine ⟨hi,?_⟩;rw [←hlen _ (bL hi)];exact (cB.1 hc).1
def bE (t q:Place):Prop:=∃r,q=t.app r
theorem bE.refl (t:Place):bE t t:=⟨[],(Place.A9 t).symm⟩
theorem bE.sub {t q:Place} (h:bE t q) (i c:Nat):bE t (q.sub i c):=by
 obtain ⟨r,rfl⟩:=h;exact ⟨r++[(i,c)],(Place.Eg t i c r).symm⟩
theorem Place.aeW {t:Place} {r r':List (Nat×Nat)} (h:t.app r=t.app r'):r=r':=by
 simpa [Place.app] using h
theorem bE.R5 {t:Place} {i c:Nat}:¬ bE (t.sub i c) t:=by
 rintro ⟨r,h⟩;have:t.p=t.p++[(i,c)]++r:=fW Place.p h;have:=fW List.length this;simp at this
theorem bE.apart {t q:Place} {i c i' c':Nat} (h:bE (t.sub i c) q) (h':bE (t.sub i' c') q):i=i'∧c=c':=by
 obtain ⟨r,rfl⟩:=h;obtain ⟨r',h'⟩:=h';have:t.p++[(i,c)]++r=t.p++[(i',c')]++r':=fW Place.p h';simp only [eo,List.append_cancel_left_eq,List.singleton_append,qH,fJ] at this;exact this.1
theorem Hd {sz:Nat} {rows:List (List D)} {i c:Nat} {p:List (Nat×Nat)} {y z:D} (h:cellOf rows i c=some z) :
  eF (.sl .own sz rows) ((i,c)::p) y = .sl .own sz (rows.set i ((rows.getD i []).set c (eF z p y))):=by
 obtain ⟨r,hr,hc⟩:=kL.1 h;have hg:rows.getD i []=r:=by rw [kC,hr];rfl
 have jX:r.getD c (.bool false)=z:=by rw [kC,hc];rfl
 rw [eF,hg,jX]
theorem br.set {w:World} {L L':aw} {B o sz i c:Nat} {rows:List (List D)} {dH y:D} {u:Value} (hc:cellOf rows i c=some dH) :
  ∀(p:List (Nat×Nat)) {pl:Place} {x:D} {v:Value},br w L pl x v→eu x p=some (.sl .own sz rows)→L B=some (.row (pl.app p) o)→
   (∀B' q o',L B'=some (.row q o')→q=pl.app p→B'=B)→
   rW w (w.setCell ⟨B,o+i * sz+c,none⟩ u) L L'→
   (∀B' q o',bE pl q→¬ bE ((pl.app p).sub i c) q→L B'=some (.row q o')→L' B'=some (.row q o'))→
   br (w.setCell ⟨B,o+i * sz+c,none⟩ u) L' ((pl.app p).sub i c) y u→AJ y dH=true→
   br (w.setCell ⟨B,o+i * sz+c,none⟩ u) L' pl (eF x (p++[(i,c)]) y) v
 | [],pl,x,v,h,hn,hB,qX,fT,df,hy,bA=>by
  simp only [eu,aj] at hn;subst hn;rw [Place.A9] at *;rcases h.nS with ⟨rfl,_⟩ | ⟨B0,o0,cap,cur,e,fz,val,rfl,aZ,hL,hH,cX,hlen,dL,dG,hv,hr,dY⟩
  ·simp [cellOf] at hc
  obtain rfl:=qX B0 pl o0 hL rfl;obtain rfl:o0=o:=by rw [hL] at hB;simpa using hB
  simp only [uP];rw [Hd hc,eF];obtain ⟨hi,eE⟩:=oj hlen hc;have ajx:=Tq (i:=i) (c:=c) (z:=y) hlen;have af:i * sz+c < cap * sz:=by
   have:(i+1) * sz≤cap * sz:=nC _ (by omega);rw [lI] at this;omega
  have gF:(rows.set i ((rows.getD i []).set c y)).length=rows.length:=yE ..;rw [←gF];refine .own (fun a b=>if a=i∧b=c then u else val a b) aZ (df _ _ _ (bE.refl _) bE.R5 hL) (xk w B0 _ u hH) (by simpa using cX) ajx (by rw [gF];exact dL) (by simpa using dG) ?_ ?_ (dY.set hc bA)
  ·intro a b x hx;rw [Eu hc] at hx;by_cases jW:a=i∧b=c
   ·obtain ⟨rfl,rfl⟩:=jW;simp only [and_self,bV];rw [wM];simp only [bV];rw [aJ (by omega)]
   ·simp only [jW,dE] at hx ⊢;obtain ⟨ha,hb⟩:=oj hlen hx;rw [wM,az]
    ·exact hv a b x hx
    ·have:=aj4 eE hb jW;omega
  ·intro a b x hx;rw [Eu hc] at hx;by_cases jW:a=i∧b=c
   ·obtain ⟨rfl,rfl⟩:=jW;simp only [and_self,bV,aj] at hx ⊢;subst hx;exact hy
   ·simp only [jW,dE] at hx ⊢;refine br.move id (bE (pl.sub a b)) (fun q i c h=>h.sub i c) (fun _ _ _ _=>rfl) fT ?_ (hr a b x hx) (bE.refl _);intro B' q o' hq ff;have aB:¬ bE (pl.sub i c) q:=fun h=>jW ⟨(bE.apart hq h).1,(bE.apart hq h).2⟩
    have qZ:bE pl q:=by obtain ⟨r,rfl⟩:=hq;exact ⟨(a,b)::r,(Place.qM pl a b r).symm⟩
    refine ⟨df _ _ _ qZ aB ff,px _ _ _ _ ?_⟩;rintro rfl;rw [hL] at ff;simp only [aj,bQ.row.injEq] at ff;rw [←ff.1] at hq;exact bE.R5 hq
 | (a,b)::p,pl,x,v,h,hn,hB,qX,fT,df,hy,bA=>by
  obtain ⟨pL,qD,z,rfl,hz,zN⟩:=Ah hn;rcases h.nS with ⟨rfl,_⟩ | ⟨B0,o0,cap,cur,e,fz,val,rfl,aZ,hL,hH,cX,hlen,dL,dG,hv,hr,dY⟩
  ·simp [cellOf] at hz
  have ajE:B0≠B:=by
   rintro rfl;rw [hL] at hB;simp only [aj,bQ.row.injEq] at hB;have:=fW (fun q:Place=>q.p.length) hB.1;simp [Place.app] at this
  have fE:=Eu hz (eF z (p++[(i,c)]) y);simp only [qG];rw [Hd hz];have gF:(qD.set a ((qD.getD a []).set b (eF z (p++[(i,c)]) y))).length=qD.length:=yE ..;have QO:∀q,bE (pl.sub a b) q→bE pl q:=by rintro q ⟨r,rfl⟩;exact ⟨(a,b)::r,(Place.qM pl a b r).symm⟩
  have ht:bE (pl.sub a b) ((pl.app ((a,b)::p)).sub i c):=by rw [Place.qM];exact ⟨p++[(i,c)],(Place.Eg _ i c p).symm⟩
  rw [←gF]
  refine .own val aZ (df _ _ _ (bE.refl _) ?_ hL) ((px _ _ _ _ ajE).trans hH) cX (Tq hlen) (by rw [gF]; exact dL) dG ?_ ?_ (dY.set hz (by
    obtain ⟨_, _, _, h7, _⟩ : ∃ (t : Tag) (s : Nat) (R : List (List D)), eF z (p ++ [(i, c)]) y = .sl t s R ∧ True := by
      cases p with
      | nil =>
        simp only [eu, aj] at zN
        subst zN
        exact ⟨_, _, _, rfl, trivial⟩
      | cons x0 p0 =>
        obtain ⟨s1, R1, z1, rfl, _, _⟩ := Ah zN
        exact ⟨_, _, _, rfl, trivial⟩
    rw [h7]; rfl))
  ·rintro ⟨r,h1⟩;obtain ⟨r2,h2⟩:=ht;have h3:=fW (fun q:Place=>q.p.length) h1;have h4:=fW (fun q:Place=>q.p.length) h2;simp [Place.app,Place.sub] at h3 h4
  ·intro a' b' x hx;rw [fE] at hx;by_cases jW:a'=a∧b'=b
   ·obtain ⟨rfl,rfl⟩:=jW;exact hv _ _ z hz
   ·simp only [jW,dE] at hx;exact hv _ _ x hx
  ·intro a' b' x hx;rw [fE] at hx;by_cases jW:a'=a∧b'=b
   ·obtain ⟨rfl,rfl⟩:=jW;simp only [and_self,bV,aj] at hx;subst hx;rw [Place.qM] at hB qX df hy;exact br.set hc p (hr _ _ z hz) zN hB qX fT (fun B' q o' h1 h2 h3=>df B' q o' (QO q h1) h2 h3) hy bA
   ·simp only [jW,dE] at hx;refine br.move id (bE (pl.sub a' b')) (fun q i c h=>h.sub i c) (fun _ _ _ _=>rfl) fT ?_ (hr a' b' x hx) (bE.refl _);intro B' q o' hq ff;have aB:¬ bE (pl.sub a b) q:=fun h=>jW ⟨(bE.apart hq h).1,(bE.apart hq h).2⟩
    have qi:¬ bE ((pl.app ((a,b)::p)).sub i c) q:=by
     rintro ⟨r,rfl⟩;apply aB;obtain ⟨r2,h2⟩:=ht;rw [h2];exact ⟨r2++r,by simp [Place.app]⟩
    have qZ:bE pl q:=by obtain ⟨r,rfl⟩:=hq;exact ⟨(a',b')::r,(Place.qM pl a' b' r).symm⟩
    refine ⟨df _ _ _ qZ qi ff,px _ _ _ _ ?_⟩;rintro rfl;have:=ff;rw [hB] at this;simp only [aj,bQ.row.injEq] at this;apply aB;rw [←this.1,Place.qM];exact ⟨p,rfl⟩
theorem br.subst {w:World} {L L':aw} {z y:D} :
  ∀(p:List (Nat×Nat)) {pl:Place} {x:D} {v:Value},br w L pl x v→eu x p=some z→
   rW w w L L'→
   (∀B' q o',bE pl q→¬ bE (pl.app p) q→L B'=some (.row q o')→L' B'=some (.row q o'))→
   (∀u,br w L (pl.app p) z u→br w L' (pl.app p) y u)→xF y=false→
   br w L' pl (eF x p y) v
 | [],pl,x,v,h,hn,fT,df,hy,bA=>by
  simp only [eu,aj] at hn;subst hn;rw [Place.A9] at hy;rw [eF];exact hy v h
 | (a,b)::p,pl,x,v,h,hn,fT,df,hy,bA=>by
  obtain ⟨pL,qD,z0,rfl,hz,zN⟩:=Ah hn;rcases h.nS with ⟨rfl,_⟩ | ⟨B0,o0,cap,cur,e,fz,val,rfl,aZ,hL,hH,cX,hlen,dL,dG,hv,hr,dY⟩
  ·simp [cellOf] at hz
  have fE:=Eu hz (eF z0 p y);rw [Hd hz];have gF:(qD.set a ((qD.getD a []).set b (eF z0 p y))).length=qD.length:=yE ..;have QO:∀q,bE (pl.sub a b) q→bE pl q:=by rintro q ⟨r,rfl⟩;exact ⟨(a,b)::r,(Place.qM pl a b r).symm⟩
  have ht:bE (pl.sub a b) (pl.app ((a,b)::p)):=by rw [Place.qM];exact ⟨p,rfl⟩
  rw [←gF]
  refine .own val aZ (df _ _ _ (bE.refl _) ?_ hL) hH cX (Tq hlen) (by rw [gF]; exact dL) dG ?_ ?_ (dY.set hz (by
    have : xF (eF z0 p y) = false := by
      cases p with
      | nil => exact bA
      | cons x0 p0 => obtain ⟨s1, R1, z1, rfl, _, _⟩ := Ah zN; rfl
    simp [AJ, this]))
  ·rintro ⟨r,h1⟩;have h3:=fW (fun q:Place=>q.p.length) h1;simp [Place.app,Place.sub] at h3
  ·intro a' b' x hx;rw [fE] at hx;by_cases jW:a'=a∧b'=b
   ·obtain ⟨rfl,rfl⟩:=jW;exact hv _ _ z0 hz
   ·simp only [jW,dE] at hx;exact hv _ _ x hx
  ·intro a' b' x hx;rw [fE] at hx;by_cases jW:a'=a∧b'=b
   ·obtain ⟨rfl,rfl⟩:=jW;simp only [and_self,bV,aj] at hx;subst hx;rw [Place.qM] at df hy;exact br.subst p (hr _ _ z0 hz) zN fT (fun B' q o' h1 h2 h3=>df B' q o' (QO q h1) h2 h3) hy bA
   ·simp only [jW,dE] at hx;refine br.move id (bE (pl.sub a' b')) (fun q i c h=>h.sub i c) (fun _ _ _ _=>rfl) fT ?_ (hr a' b' x hx) (bE.refl _);intro B' q o' hq ff;have aB:¬ bE (pl.sub a b) q:=fun h=>jW ⟨(bE.apart hq h).1,(bE.apart hq h).2⟩
    have qi:¬ bE (pl.app ((a,b)::p)) q:=by
     rintro ⟨r,rfl⟩;apply aB;obtain ⟨r2,h2⟩:=ht;rw [h2];exact ⟨r2++r,by simp [Place.app]⟩
    have qZ:bE pl q:=by obtain ⟨r,rfl⟩:=hq;exact ⟨(a',b')::r,(Place.qM pl a' b' r).symm⟩
    exact ⟨df _ _ _ qZ qi ff,rfl⟩
end
section
def A4 (w:World) (L:aw) (pl:Place) (sz off len:Nat) (v:Value):Prop:=
 (len=0∧∃a,v = .slice (some a) 0 0)∨
 ∃B o cap cur e fz,v = .slice (some ⟨B,o+off * sz,none⟩) len cap∧0 < sz∧L B=some (.row pl o)∧w.heap[B]? = some (.cells cur e fz)∧
  jC cur.size fz∧len≤cap∧o+off * sz+cap * sz≤cur.size∧(off=0→len=0→e=5)
def pW (w:World) (L:aw) (pl:Place) (sz:Nat) (rows:List (List D)) (t:Place) (v:Value):Prop:=
 (rows=[]∧∃a,v = .slice (some a) 0 0)∨
 ∃B o cap cur e fz n0,∃val:Nat→Nat→Value,v = .slice (some ⟨B,o,none⟩) rows.length cap∧0 < sz∧(L B=some (.row pl o)∨L B=some (.row t o))∧
  w.heap[B]? = some (.cells cur e fz)∧jC cur.size fz∧(∀r∈rows,r.length=sz)∧rows.length≤cap∧o+cap * sz≤cur.size∧
  (∀i c x,cellOf rows i c=some x→cur[o+i * sz+c]? = some (val i c))∧
  (∀i c x,cellOf rows i c=some x→br w L ((if i < n0 then pl else t).sub i c) x (val i c))∧tK rows e
mutual
def C.clean:C→Bool
 | .d (.sl .own _ _)=>false
 | .c7 .. => false
 | .bt _=>false
 | .mp _=>false
 | .fn _ a b=>jo a&&jo b
 | _=>true
def jo:List C→Bool
 | []=>true
 | c::t=>c.clean&&jo t
end
mutual
def V.clean:V→Bool
 | .one c=>c.clean
 | .agg cs=>jo cs
 | .aq vs=>iB vs
def iB:List V→Bool
 | []=>true
 | v::t=>v.clean&&iB t
end
theorem kj:∀{l:List C} {i:Nat} {c:C},jo l=true→l[i]? = some c→c.clean=true
 | [],_,_,_,h=>by simp at h
 | x::t,0,c,h,hc=>by simp only [jo,bK] at h;simp at hc;subst hc;exact h.1
 | x::t,i+1,c,h,hc=>by simp only [jo,bK] at h;exact kj h.2 (by simpa using hc)
theorem Ex:∀{l:List V} {i:Nat} {c:V},iB l=true→l[i]? = some c→c.clean=true
 | [],_,_,_,h=>by simp at h
 | x::t,0,c,h,hc=>by simp only [iB,bK] at h;simp at hc;subst hc;exact h.1
 | x::t,i+1,c,h,hc=>by simp only [iB,bK] at h;exact Ex h.2 (by simpa using hc)
def HU (x:D) (es:Array MapEntry):Prop:=
 ∃(b:Bool) (rows:List (List D)) (l:List (List UInt8×Bool)),x = .sl (.im b) 2 rows∧rows=l.map (fun p=>[.str p.1,.bool p.2])∧es.toList.map (fun e=>(e.key,e.val))=l.map (fun p=>(Value.string ⟨p.1.toArray⟩,Value.bool p.2))
def Key.aT:Key→Bool
 | .s _=>true
 | .b _ _=>true
 | _=>false
def Vi (len:Nat) (v:Value):Prop:=∃b c,v = .slice b len c∧len≤c∧b.isSome=true
section
variable (nm:FuncId→Option Nat) (w:World) (L:aw) (γ:Key→Nat)
inductive aF:Key→Nat→C→Value→Prop where
 | d {k j x v} (h:br w L ⟨k,j,[]⟩ x v):aF k j (.d x) v
 | ptr {k j r g c v} (hv:∃ad,v = .pointer (some ad)) (hg:g≤γ (.r r))
  (h:g=γ (.r r)→∃B o,L B=some (.box r o)∧v = .pointer (some ⟨B,o+c,none⟩)):aF k j (.ptr r g c) v
 | eD {k j pl g sz i c v} (hv:∃ad,v = .pointer (some ad)) (hh:pl.k.aT=true) (hg:g≤γ pl.k)
  (h:g=γ pl.k→∃B o,L B=some (.row pl o)∧v = .pointer (some ⟨B,o+i * sz+c,none⟩)):aF k j (.eD pl g sz i c) v
 | pp {k j cells B o cur e fz} (hL:L B=some .bh) (hB:w.heap[B]? = some (.cells cur e fz))
  (h:∀q x,cells[q]? = some x→∃u,cur[o+q]? = some u∧fK w L x u):aF k j (.pp cells) (.pointer (some ⟨B,o,none⟩))
 | view {k j pl g sz off len v} (hv:Vi len v) (hh:pl.k.aT=true) (hg:g≤γ pl.k) (h:g=γ pl.k→A4 w L pl sz off len v):aF k j (.view pl g sz off len) v
 | c7 {k j pl g a sz rows v} (hv:v.oneCell'=true) (hh:pl.k.aT=true) (hg:g≤γ pl.k) (ha:a≤γ (.a pl.k))
  (h:g=γ pl.k→a=γ (.a pl.k)→pW w L pl sz rows ⟨k,j,[]⟩ v):aF k j (.c7 pl g a sz rows) v
 | fn {k j f first cap cH} {fs cs:Array Value} (jH:f < kN) (hf:nm cH=some f) (h1:first.length=fs.size) (h2:cap.length=cs.size) (aR:jo first=true∧jo cap=true)
  (h3:∀(i:Nat) x u,first[i]? = some x→fs[i]? = some u→aF k j x u)
  (h4:∀(i:Nat) x u,cap[i]? = some x→cs[i]? = some u→aF k j x u):aF k j (.fn f first cap) (.func (.func cH) fs cs)
 | fns {k j f l v B o cap cur e fz} (val:Nat→Value) (hf:(f=kN∧v = .slice (some ⟨B,o,none⟩) l.length cap∧l.length≤cap)∨(f=kN+1∧v = .pointer (some ⟨B,o,none⟩)))
  (hL:L B=some .bh) (hB:w.heap[B]? = some (.cells cur e fz)) (aR:jo l=true) (hv:∀i,i < l.length→cur[o+i]? = some (val i))
  (h:∀(i:Nat) x,l[i]? = some x→aF k j x (val i)):aF k j (.fn f [] l) v
 | cE {k j}:aF k j .cE (.pointer none)
 | eW {k j}:aF k j .eW .nilFunc
 | fQ {k j}:aF k j .fQ .nilIface
 | fj {k j t u}:aF k j .fj (.iface t u)
 | bt {k j t v} (hk:∃r c,k = .b r c) (hv:v.oneCell'=true):aF k j (.bt t) v
 | mp {k j x v} (h:∃B es clock,v = .map (some B)∧L B=some (.row ⟨k,j,[]⟩ 0)∧w.heap[B]? = some (.map es clock)∧HU x es):aF k j (.mp x) v
 | gk {k j i g v} (hv:∃B,v = .map (some B)) (hg:g≤γ (.b (.g i) 0)) (h:g=γ (.b (.g i) 0)→∃B,L B=some (.row ⟨.b (.g i) 0,0,[]⟩ 0)∧v = .map (some B)):aF k j (.gk i g) v
 | dead {k j v}:aF k j .dead v
inductive bD:Key→V→Value→Prop where
 | one {k c v} (h:aF nm w L γ k 0 c v):bD k (.one c) v
 | agg {k cs} {vs:Array Value} (hl:cs.length=vs.size) (h:∀(j:Nat) c u,cs[j]? = some c→vs[j]? = some u→aF nm w L γ k j c u):bD k (.agg cs) (.agg vs)
 | aq {k vs} {us:Array Value} (hl:vs.length=us.size) (aR:iB vs=true) (h:∀(i:Nat) x u,vs[i]? = some x→us[i]? = some u→bD k x u):bD k (.aq vs) (.tuple us)
end
theorem aF.Ph {nm:FuncId→Option Nat} {w:World} {L:aw} {γ:Key→Nat} {k:Key} {j tag:Nat} {l:List C} {v:Value} (ht:kN≤tag) (h:aF nm w L γ k j (.fn tag [] l) v) :
  ∃B o cap cur e fz,∃val:Nat→Value,((tag=kN∧v = .slice (some ⟨B,o,none⟩) l.length cap∧l.length≤cap)∨(tag=kN+1∧v = .pointer (some ⟨B,o,none⟩)))∧
   L B=some .bh∧w.heap[B]? = some (.cells cur e fz)∧jo l=true∧(∀i,i < l.length→cur[o+i]? = some (val i))∧∀(i:Nat) x,l[i]? = some x→aF nm w L γ k j x (val i):=by
 cases h with
 | fn jH=>exact absurd jH (by omega)
 | fns val hf hL hB aR hv h=>exact ⟨_,_,_,_,_,_,val,hf,hL,hB,aR,hv,h⟩
theorem aF.vZ {nm:FuncId→Option Nat} {w:World} {L:aw} {γ:Key→Nat} {k:Key} {j:Nat} {c:C} {v:Value} (h:aF nm w L γ k j c v) (hc:c≠.dead):v.oneCell'=true:=by
 cases h with
 | d h=>exact h.vZ
 | ptr hv=>obtain ⟨ad,rfl⟩:=hv;rfl
 | eD hv=>obtain ⟨ad,rfl⟩:=hv;rfl
 | pp=>rfl
 | view hv=>obtain ⟨b,c,rfl,_⟩:=hv;rfl
 | c7 hv=>exact hv
 | fn=>rfl
 | fns val hf=>rcases hf with ⟨_,rfl,_⟩ | ⟨_,rfl⟩<;>rfl
 | cE=>rfl
 | eW=>rfl
 | fQ=>rfl
 | fj=>rfl
 | bt hk hv=>exact hv
 | mp h=>obtain ⟨B,es,clock,rfl,_⟩:=h;rfl
 | gk hv=>obtain ⟨B,rfl⟩:=hv;rfl
 | dead=>exact absurd rfl hc
structure Step (w w':World) (L L':aw) (γ γ':Key→Nat):Prop where
 bh:rW w w' L L'
 dQ:∀k,γ k≤γ' k
 view:∀B q o,q.k.aT=true→γ' q.k=γ q.k→L B=some (.row q o)→L' B=some (.row q o)∧
  ∀cur e fz,w.heap[B]? = some (.cells cur e fz)→∃dR:Array Value,w'.heap[B]? = some (.cells dR e fz)∧dR.size=cur.size
 app:∀B q o,q.k.aT=true→γ' q.k=γ q.k→γ' (.a q.k)=γ (.a q.k)→L B=some (.row q o)→w'.heap[B]? = w.heap[B]?
 box:∀B r o,γ' (.r r)=γ (.r r)→L B=some (.box r o)→L' B=some (.box r o)
theorem A4.step {w w':World} {L L':aw} {γ γ':Key→Nat} (hs:Step w w' L L' γ γ') {pl:Place} {sz off len:Nat} {v:Value}
  (hh:pl.k.aT=true) (hk:γ' pl.k=γ pl.k) (h:A4 w L pl sz off len v):A4 w' L' pl sz off len v:=by
 rcases h with h | ⟨B,o,cap,cur,e,fz,rfl,aZ,hL,hB,cX,hc,hr,h8⟩
 ·exact .inl h
 ·obtain ⟨h1,h2⟩:=hs.view B pl o hh hk hL;obtain ⟨dR,h3,h4⟩:=h2 _ _ _ hB;exact .inr ⟨B,o,cap,dR,e,fz,rfl,aZ,h1,h3,by rw [h4];exact cX,hc,by rw [h4];exact hr,h8⟩
def Place.at (q:Place) (k:Key) (j:Nat):Place:=⟨k,j,q.p⟩
theorem pW.step {w w':World} {L L':aw} {γ γ':Key→Nat} (hs:Step w w' L L' γ γ') {pl:Place} {k k':Key} {j j':Nat} {sz:Nat} {rows:List (List D)} {v:Value}
  (hh:pl.k.aT=true) (hk:γ' pl.k=γ pl.k) (ha:γ' (.a pl.k)=γ (.a pl.k))
  (ht:∀B q o,q.k=k→q.j=j→L B=some (.row q o)→L' B=some (.row (q.at k' j') o)∧w'.heap[B]? = w.heap[B]?)
  (h:pW w L pl sz rows ⟨k,j,[]⟩ v):pW w' L' pl sz rows ⟨k',j',[]⟩ v:=by
 rcases h with h | ⟨B,o,cap,cur,e,fz,n0,val,rfl,aZ,hL,hB,cX,hlen,hc,hr,hv,hd,dY⟩
 ·exact .inl h
 ·have dz:∀i c x,cellOf rows i c=some x→br w' L' ((if i < n0 then pl else ⟨k',j',[]⟩).sub i c) x (val i c):=by
   intro i c x hx;have h0:=hd i c x hx;by_cases hi:i < n0
   ·rw [aJ hi] at h0 ⊢;refine br.move id (fun q=>q.k=pl.k) (fun _ _ _ h=>h) (fun _ _ _ _=>rfl) hs.bh ?_ h0 rfl;intro B q o hq hL;have vF:γ' q.k=γ q.k:=by rw [hq];exact hk
    have JF:γ' (.a q.k)=γ (.a q.k):=by rw [hq];exact ha
    have Zi:q.k.aT=true:=by rw [hq];exact hh
    exact ⟨(hs.view B q o Zi vF hL).1,hs.app B q o Zi vF JF hL⟩
   ·rw [az hi] at h0 ⊢;exact br.move (fun q=>q.at k' j') (fun q=>q.k=k∧q.j=j) (fun _ _ _ h=>h) (fun _ _ _ _=>rfl) hs.bh (fun B q o hq hL=>ht B q o hq.1 hq.2 hL) h0 ⟨rfl,rfl⟩
  rcases hL with hL | hL
  ·exact .inr ⟨B,o,cap,cur,e,fz,n0,val,rfl,aZ,.inl (hs.view B pl o hh hk hL).1,(hs.app B pl o hh hk ha hL).trans hB,cX,hlen,hc,hr,hv,dz,dY⟩
  ·have:=ht B _ o rfl rfl hL;exact .inr ⟨B,o,cap,cur,e,fz,n0,val,rfl,aZ,.inr this.1,this.2.trans hB,cX,hlen,hc,hr,hv,dz,dY⟩
theorem aF.step {nm:FuncId→Option Nat} {w w':World} {L L':aw} {γ γ':Key→Nat} (hs:Step w w' L L' γ γ') {k k':Key} {j j':Nat}
  (kv:∀B q o,q.k=k→q.j=j→L B=some (.row q o)→L' B=some (.row (q.at k' j') o)∧w'.heap[B]? = w.heap[B]?)
  {c:C} {v:Value} (h:aF nm w L γ k j c v) (hkk:(∃r c,k = .b r c)→∃r c,k' = .b r c:=by first | exact fun h=>h | exact fun _=>⟨_,_,rfl⟩ | (rintro ⟨r,c,h⟩;cases h;done)):aF nm w' L' γ' k' j' c v:=by
 induction h with
 | d h=>
  refine .d ?_;exact br.move (fun q=>q.at k' j') (fun q=>q.k=_∧q.j=_) (fun _ _ _ h=>h) (fun _ _ _ _=>rfl) hs.bh (fun B q o hq hL=>kv B q o hq.1 hq.2 hL) h ⟨rfl,rfl⟩
 | @ptr r g c v hv hg h=>
  refine .ptr hv (iQ hg (hs.dQ _)) ?_;intro he;have:γ' (.r r)=γ (.r r):=uQ (he▸hg) (hs.dQ _);obtain ⟨B,o,h1,h2⟩:=h (he.trans this);exact ⟨B,o,hs.box B r o this h1,h2⟩
 | @eD pl g sz i c v hv hh hg h=>
  refine .eD hv hh (iQ hg (hs.dQ _)) ?_;intro he;have:γ' pl.k=γ pl.k:=uQ (he▸hg) (hs.dQ _);obtain ⟨B,o,h1,h2⟩:=h (he.trans this);exact ⟨B,o,(hs.view B pl o hh this h1).1,h2⟩
 | pp hL hB h=>
  refine .pp (hs.bh _ hL).1 ((hs.bh _ hL).2.trans hB) ?_;intro q x hx;obtain ⟨u,h1,h2⟩:=h q x hx;exact ⟨u,h1,h2.mono hs.bh⟩
 | @view pl g sz off len v hv hh hg h=>
  refine .view hv hh (iQ hg (hs.dQ _)) ?_;intro he;have:γ' pl.k=γ pl.k:=uQ (he▸hg) (hs.dQ _);exact (h (he.trans this)).step hs hh this
 | @c7 pl g a sz rows v hv hh hg ha h=>
  refine .c7 hv hh (iQ hg (hs.dQ _)) (iQ ha (hs.dQ _)) ?_;intro he Yz;have h1:γ' pl.k=γ pl.k:=uQ (he▸hg) (hs.dQ _);have h2:γ' (.a pl.k)=γ (.a pl.k):=uQ (Yz▸ha) (hs.dQ _);exact (h (he.trans h1) (Yz.trans h2)).step hs hh h1 h2 kv
 | fn jH hf h1 h2 aR h3 h4 sL sM=>exact .fn jH hf h1 h2 aR sL sM
 | fns val hf hL hB aR hv h ih=>exact .fns val hf (hs.bh _ hL).1 ((hs.bh _ hL).2.trans hB) aR hv ih
 | cE=>exact .cE
 | eW=>exact .eW
 | fQ=>exact .fQ
 | fj=>exact .fj
 | bt hk hv=>exact .bt (hkk hk) hv
 | mp h=>
  obtain ⟨B,es,clock,rfl,h1,h2,h3⟩:=h;obtain ⟨g1,g2⟩:=kv B _ 0 rfl rfl h1;exact .mp ⟨B,es,clock,rfl,g1,g2.trans h2,h3⟩
 | @gk i g v hv hg h=>
  refine .gk hv (iQ hg (hs.dQ _)) ?_;intro he;have:γ' (.b (.g i) 0)=γ (.b (.g i) 0):=uQ (he▸hg) (hs.dQ _);obtain ⟨B,h1,h2⟩:=h (he.trans this);exact ⟨B,(hs.view B _ 0 rfl this h1).1,h2⟩
 | dead=>exact .dead
theorem bD.step {nm:FuncId→Option Nat} {w w':World} {L L':aw} {γ γ':Key→Nat} (hs:Step w w' L L' γ γ') {k k':Key}
  (kv:∀B q o,q.k=k→L B=some (.row q o)→L' B=some (.row (q.at k' q.j) o)∧w'.heap[B]? = w.heap[B]?)
  {x:V} {v:Value} (h:bD nm w L γ k x v) (hkk:(∃r c,k = .b r c)→∃r c,k' = .b r c:=by first | exact fun h=>h | exact fun _=>⟨_,_,rfl⟩ | (rintro ⟨r,c,h⟩;cases h;done)):bD nm w' L' γ' k' x v:=by
 induction h with
 | one h=>exact .one (h.step hs (fun B q o h1 h2 hL=>by have:=kv B q o h1 hL;rwa [h2] at this) hkk)
 | agg hl h=>exact .agg hl (fun j c u hc hu=>(h j c u hc hu).step hs (fun B q o h1 h2 hL=>by have:=kv B q o h1 hL;rwa [h2] at this) hkk)
 | aq hl aR h ih=>exact .aq hl aR ih
theorem aF.any {nm:FuncId→Option Nat} {w:World} {L:aw} {γ:Key→Nat} {k:Key} {j:Nat} {c:C} {v:Value} (h:aF nm w L γ k j c v)
  (hc:c.clean=true) (k':Key) (j':Nat):aF nm w L γ k' j' c v:=by
 induction h with
 | @d x v h=>
  cases h with
  | plain h=>exact .d (.plain h)
  | jm=>simp [C.clean] at hc
  | own=>simp [C.clean] at hc
 | ptr hv hg h=>exact .ptr hv hg h
 | eD hv hh hg h=>exact .eD hv hh hg h
 | pp hL hB h=>exact .pp hL hB h
 | view hv hh hg h=>exact .view hv hh hg h
 | c7=>simp [C.clean] at hc
 | fn jH hf h1 h2 aR h3 h4 sL sM=>
  exact .fn jH hf h1 h2 aR (fun i x u hx hu=>sL i x u hx hu (kj aR.1 hx)) (fun i x u hx hu=>sM i x u hx hu (kj aR.2 hx))
 | fns val hf hL hB aR hv h ih=>exact .fns val hf hL hB aR hv (fun i x hx=>ih i x hx (kj aR hx))
 | cE=>exact .cE
 | eW=>exact .eW
 | fQ=>exact .fQ
 | fj=>exact .fj
 | bt=>simp [C.clean] at hc
 | mp=>simp [C.clean] at hc
 | gk hv hg h=>exact .gk hv hg h
 | dead=>exact .dead
theorem aF.u4 {nm:FuncId→Option Nat} {w:World} {L:aw} {γ:Key→Nat} {k:Key} {j:Nat} {c:C} {v:Value} (h:aF nm w L γ k j c v)
  (hc:c.own=false):c.clean=true:=by
 cases h with
 | @d x v h=>
  cases x with
  | sl t sz rows=>cases t<;>simp_all [C.own,C.clean]
  | _=>rfl
 | c7=>simp [C.own] at hc
 | bt=>simp [C.own] at hc
 | mp=>simp [C.own] at hc
 | fn jH hf h1 h2 aR h3 h4=>simp [C.clean,aR.1,aR.2]
 | fns val hf hL hB aR hv h=>simp [C.clean,aR,jo]
 | _=>rfl
theorem bD.any {nm:FuncId→Option Nat} {w:World} {L:aw} {γ:Key→Nat} {k:Key} {x:V} {v:Value} (h:bD nm w L γ k x v)
  (hc:x.clean=true) (k':Key):bD nm w L γ k' x v:=by
 induction h with
 | one h=>exact .one (h.any hc _ _)
 | agg hl h=>exact .agg hl (fun j c u h1 h2=>(h j c u h1 h2).any (kj hc h1) _ _)
 | aq hl aR h ih=>exact .aq hl aR (fun i x u h1 h2=>ih i x u h1 h2 (Ex aR h1))
def rV (w:World) (L:aw):Prop:=∀B l,L B=some l→B < w.heap.size
theorem xj {w w':World} {B:Nat} (h:B < w.heap.size) (he:w'.heap[B]? = w.heap[B]?):B < w'.heap.size:=by
 rw [oc h] at he;exact (lG.1 he).1
def lZ (L:aw):Prop:=∀B B' pl o o',L B=some (.row pl o)→L B'=some (.row pl o')→B=B'
def D5 (L:aw):Prop:=∀B B' r o o',L B=some (.box r o)→L B'=some (.box r o')→B=B'
def lJ (x:C) (B o c:Nat) (e:TypeId) (n:Nat) (v:Value):Prop:=
 match x with
 | .bt t=>o=0∧c=0∧e=t∧n=2∧(v = .pointer none∨v = .pointer (some ⟨B,0,none⟩))
 | _=>True
theorem lJ.of {x:C} (h:∀t,x≠.bt t) {B o c:Nat} {e:TypeId} {n:Nat} {v:Value}:lJ x B o c e n v:=by
 cases x<;>first | trivial | exact absurd rfl (h _)
def D7 (nm:FuncId→Option Nat) (w:World) (L:aw) (γ:Key→Nat) (r:aI) (c:Nat) (x:C):Prop:=
 match r with
 | .g _=>∃v,aF nm w L γ (.b r c) 0 x v
 | _=>∃B o cur e fz v,L B=some (.box r o)∧w.heap[B]? = some (.cells cur e fz)∧jC cur.size fz∧cur[o+c]? = some v∧aF nm w L γ (.b r c) 0 x v∧lJ x B o c e cur.size v
structure aeS (nm:FuncId→Option Nat) (N:Nat) (E:Key→V) (γ:Key→Nat) (a:Act) (w:World) (L:aw):Prop where
 size:a.tmps.size=N
 defers:a.defers=[]
 slot:∀i,bD nm w L γ (.s i) (E (.s i)) (a.tmps.getD i undef)
 cell:∀r c x,E (.b r c) = .one x→x≠.dead→D7 nm w L γ r c x
 kf:∀r c,∃y,E (.b r c) = .one y
 bound:∀r c,cm (E (.r r))≤c→E (.b r c) = .one .dead
 room:∀r,r.iX=false→0 < cm (E (.r r))→∃B o cur e fz,L B=some (.box r o)∧w.heap[B]? = some (.cells cur e fz)∧jC cur.size fz∧o+cm (E (.r r))≤cur.size
 fq:rV w L
 eM:lZ L
 fA:D5 L
def St.E (S:St) (k:Key):V:=(S.get k).v
def St.γ (S:St) (k:Key):Nat:=(S.get k).g
def Rel (nm:FuncId→Option Nat) (N:Nat) (S:St) (a:Act) (w:World) (L:aw):Prop:=aeS nm N S.E S.γ a w L
structure de (w w':World) (L L':aw):Prop where
 os:w'.os=w.os
 tape:w'.tape=w.tape
 output:w'.output=w.output
 size:w.heap.size≤w'.heap.size
 bh:rW w w' L L'
 none:∀B,B < w.heap.size→L B=none→L' B=none∧w'.heap[B]? = w.heap[B]?
 Bt:∀B i o,L B=some (.box (.e i) o)→L' B=some (.box (.e i) o)
theorem de.refl (w:World) (L:aw):de w w L L:=⟨rfl,rfl,rfl,bT _,fun _ h=>⟨h,rfl⟩,fun _ _ h=>⟨h,rfl⟩,fun _ _ _ h=>h⟩
theorem de.trans {w1 w2 w3:World} {L1 L2 L3:aw} (h:de w1 w2 L1 L2) (k:de w2 w3 L2 L3):de w1 w3 L1 L3:=
 ⟨k.os.trans h.os, k.tape.trans h.tape, k.output.trans h.output, iQ h.size k.size,
   fun B hB => ⟨(k.bh B (h.bh B hB).1).1, (k.bh B (h.bh B hB).1).2.trans (h.bh B hB).2⟩,
   fun B af hB => ⟨(k.none B (HM af h.size) (h.none B af hB).1).1, (k.none B (HM af h.size) (h.none B af hB).1).2.trans (h.none B af hB).2⟩, fun B i o hB => k.Bt B i o (h.Bt B i o hB)⟩
theorem St.BP (S:St) (x:Wr) (k:Key):(S.wr x).get k=if x.k=k then ⟨x.v,if x.keep then (S.get x.k).g else (S.get x.k).g+1⟩ else S.get k:=by
 unfold St.wr;rw [St.aiV]
theorem St.ig (S:St) (x:Wr) (k:Key):(S.wr x).E k=if x.k=k then x.v else S.E k:=by
 unfold St.E;rw [St.BP];split<;>rfl
theorem St.jU (S:St) (x:Wr) (k:Key):(S.wr x).γ k=if x.k=k then (if x.keep then S.γ k else S.γ k+1) else S.γ k:=by
 unfold St.γ;rw [St.BP];by_cases h:x.k=k
 ·subst h;simp only [bV]
 ·simp [h]
def Vd (nm:FuncId→Option Nat) (E:Key→V) (γ:Key→Nat) (a:Act) (w:World) (L:aw) (k:Key) (v:V):Prop:=
 match k with
 | .s i=>bD nm w L γ (.s i) v (a.tmps.getD i undef)
 | .b r c=>∃y,v = .one y∧(y≠.dead→c < cm (E (.r r))∧D7 nm w L γ r c y)
 | .r _=>False
 | _=>True
theorem aF.LD {nm:FuncId→Option Nat} {w:World} {L:aw} {γ:Key→Nat} {m j:Nat} {x:C} {v:Value} (h:aF nm w L γ (.h m) j x v):∀t,x≠.bt t:=by
 rintro t rfl;cases h with
 | bt hk=>obtain ⟨r,c,h⟩:=hk;cases h
theorem D7.step {nm:FuncId→Option Nat} {w w':World} {L L':aw} {γ γ':Key→Nat} (hs:Step w w' L L' γ γ') {r:aI} {c:Nat} {x:C}
  (kv:∀B q o,q.k = .b r c→L B=some (.row q o)→L' B=some (.row q o)∧w'.heap[B]? = w.heap[B]?)
  (gZ : ∀ B o, L B = some (.box r o) → L' B = some (.box r o) ∧
    ∀ cur e fz, w.heap[B]? = some (.cells cur e fz) → ∃ dR : Array Value, w'.heap[B]? = some (.cells dR e fz) ∧ dR.size = cur.size ∧ dR[o + c]? = cur[o + c]?)
  (h:D7 nm w L γ r c x):D7 nm w' L' γ' r c x:=by
 have hc:∀v,aF nm w L γ (.b r c) 0 x v→aF nm w' L' γ' (.b r c) 0 x v:=fun v hv=>
  hv.step hs (fun B q o h1 h2 hL => by
    have := kv B q o h1 hL
    have hq : q.at (.b r c) 0 = q := by cases q; simp only [Place.at] at *; subst h1; subst h2; rfl
    rw [hq]; exact this)
 cases r with
 | g i=>obtain ⟨v,hv⟩:=h;exact ⟨v,hc v hv⟩
 | e i=>
  obtain ⟨B,o,cur,e,fz,v,h1,h2,h3,h4,h5,h6⟩:=h;obtain ⟨g1,g2⟩:=gZ B o h1;obtain ⟨dR,g3,g4,g5⟩:=g2 _ _ _ h2;exact ⟨B,o,dR,e,fz,v,g1,g3,by rw [g4];exact h3,g5.trans h4,hc v h5,by rw [g4];exact h6⟩
 | l i=>
  obtain ⟨B,o,cur,e,fz,v,h1,h2,h3,h4,h5,h6⟩:=h;obtain ⟨g1,g2⟩:=gZ B o h1;obtain ⟨dR,g3,g4,g5⟩:=g2 _ _ _ h2;exact ⟨B,o,dR,e,fz,v,g1,g3,by rw [g4];exact h3,g5.trans h4,hc v h5,by rw [g4];exact h6⟩
theorem Place.l9 (q:Place):q.at q.k q.j=q:=by cases q;rfl
theorem Rel.write {nm:FuncId→Option Nat} {N:Nat} {S:St} {a a':Act} {w w':World} {L L':aw} (h:Rel nm N S a w L) (x:Wr)
  (aZ:a'.tmps.size=a.tmps.size) (hdf:a'.defers=[])
  (vI:∀i,x.k≠.s i→a'.tmps.getD i undef=a.tmps.getD i undef)
  (hs:Step w w' L L' S.γ (S.wr x).γ)
  (kv:∀B q o,q.k≠x.k→q.k.aT=true→L B=some (.row q o)→L' B=some (.row q o)∧w'.heap[B]? = w.heap[B]?)
  (gZ : ∀ B r o, x.k ≠ .r r → L B = some (.box r o) → L' B = some (.box r o) ∧
    ∀ cur e fz, w.heap[B]? = some (.cells cur e fz) → ∃ dR : Array Value, w'.heap[B]? = some (.cells dR e fz) ∧ dR.size = cur.size ∧ ∀ c, x.k ≠ .b r c → dR[o + c]? = cur[o + c]?)
  (hx:Vd nm S.E (S.wr x).γ a' w' L' x.k x.v)
  (hd:rV w' L') (oG:lZ L') (p7:D5 L'):Rel nm N (S.wr x) a' w' L':=by
 refine ⟨aZ.trans h.size,hdf,?_,?_,?_,?_,?_,hd,oG,p7⟩
 ·intro i;rw [St.ig];by_cases hk:x.k = .s i
  ·simp only [hk,bV];rw [hk] at hx;exact hx
  ·simp only [hk,dE];rw [vI i hk];refine (h.slot i).step hs ?_;intro B q o hq hL;have:=kv B q o (by rw [hq];exact fun e=>hk e.symm) (by rw [hq];rfl) hL;rwa [←hq,Place.l9]
 ·intro r c y hy ji;have ud:x.k≠.r r:=by intro e;rw [e] at hx;exact hx
  rw [St.ig] at hy;by_cases hk:x.k = .b r c
  ·simp only [hk,bV] at hy;rw [hk] at hx;obtain ⟨y',h1,h2⟩:=hx;rw [hy] at h1;simp only [V.one.injEq] at h1;subst h1;exact (h2 ji).2
  ·simp only [hk,dE] at hy;refine (h.cell r c y hy ji).step hs ?_ ?_
   ·intro B q o hq hL;exact kv B q o (by rw [hq];exact fun e=>hk e.symm) (by rw [hq];rfl) hL
   ·intro B o hL;obtain ⟨h1,h2⟩:=gZ B r o ud hL;refine ⟨h1,fun cur e fz hB=>?_⟩;obtain ⟨dR,h3,h4,h5⟩:=h2 cur e fz hB;exact ⟨dR,h3,h4,h5 c hk⟩
 ·intro r c;rw [St.ig];by_cases hk:x.k = .b r c
  ·simp only [hk,bV];rw [hk] at hx;obtain ⟨y,h1,_⟩:=hx;exact ⟨y,h1⟩
  ·simp only [hk,dE];exact h.kf r c
 ·intro r c hc;have ud:x.k≠.r r:=by intro e;rw [e] at hx;exact hx
  rw [St.ig] at hc ⊢;simp only [ud,dE] at hc;by_cases hk:x.k = .b r c
  ·simp only [hk,bV];rw [hk] at hx;obtain ⟨y,h1,h2⟩:=hx;by_cases ji:y = .dead
   ·rw [h1,ji]
   ·have:=(h2 ji).1;omega
  ·simp only [hk,dE];exact h.bound r c hc
 ·intro r hg hr;have ud:x.k≠.r r:=by intro e;rw [e] at hx;exact hx
  rw [St.ig] at hr ⊢;simp only [ud,dE] at hr ⊢;obtain ⟨B,o,cur,e,fz,h1,h2,h3,h4⟩:=h.room r hg hr;obtain ⟨g1,g2⟩:=gZ B r o ud h1;obtain ⟨dR,g3,g4,_⟩:=g2 _ _ _ h2;exact ⟨B,o,dR,e,fz,g1,g3,by rw [g4];exact h3,by rw [g4];exact h4⟩
end
section
theorem BN (S:St):∀(ws:List Wr) (k:Key),(S.ah ws).E k=(pZ ws k).getD (S.E k)
 | [],k=>rfl
 | x::t,k=>by
  simp only [St.ah,St.ig,pZ];by_cases h:x.k=k
  ·simp [h]
  ·simp only [h,dE];exact BN S t k
theorem uZ (S:St) (ws:List Wr) (k:Key):(r5 ws k).run S=some ⟨(S.ah ws).E k,S.γ k⟩:=by
 rw [BN];unfold r5;simp only [Q.run_bind,Q.uD,Option.bind_some];cases pZ ws k<;>rfl
theorem St.wO (S:St):∀(ws:List Wr) (k:Key),S.γ k≤(S.ah ws).γ k
 | [],_=>bT _
 | x::t,k=>by
  simp only [St.ah,St.jU];have:=wO S t k;by_cases h:x.k=k
  ·subst h;simp only [bV];split<;>omega
  ·simp only [h,dE];exact this
theorem Step.same (w:World) (L:aw) {γ γ':Key→Nat} (h:∀k,γ k≤γ' k):Step w w L L γ γ':=
 ⟨fun _ h=>⟨h,rfl⟩,h,fun _ _ _ _ _ h=>⟨h,fun cur e fz hB=>⟨cur,hB,rfl⟩⟩,fun _ _ _ _ _ _ _=>rfl,fun _ _ _ _ h=>h⟩
theorem St.pV (S:St) (x:Wr) (k:Key):S.γ k≤(S.wr x).γ k:=by
 rw [St.jU];split<;>(try split)<;>omega
def bump (S:St) (k:Key) (k':Key):Nat:=if k=k' then S.γ k'+1 else S.γ k'
theorem D3 (S:St) (k:Key) (v:V):(S.wr { k,v }).γ=bump S k:=by
 funext k';rw [St.jU];unfold bump;by_cases h:k=k'<;>simp [h]
section
variable {nm:FuncId→Option Nat} {N:Nat} {S:St} {a:Act} {w:World} {L:aw}
theorem Rel.Hx (h:Rel nm N S a w L) (x:Wr) (L':aw) (hk:x.keep=false)
  (fT:∀B,L B=some .bh→L' B=some .bh)
  (kv:∀B q o,q.k≠x.k→q.k.aT=true→L B=some (.row q o)→L' B=some (.row q o))
  (gZ:∀B r o,L B=some (.box r o)→L' B=some (.box r o))
  (hx:Vd nm S.E (S.wr x).γ a w L' x.k x.v)
  (hd:∀B l,L' B=some l→∃l0,L B=some l0) (oG:lZ L') (p7:∀B r o,L' B=some (.box r o)→L B=some (.box r o)) :
  Rel nm N (S.wr x) a w L':=by
 refine h.write x rfl h.defers (fun _ _=>rfl) ?_ (fun B q o h1 h2 h3=>⟨kv B q o h1 h2 h3,rfl⟩) (fun B r o _ hL=>⟨gZ B r o hL,fun cur e fz hB=>⟨cur,hB,rfl,fun _ _=>rfl⟩⟩) hx ?_ oG ?_
 ·refine ⟨fun B hB=>⟨fT B hB,rfl⟩,S.pV x,?_,fun _ _ _ _ _ _ _=>rfl,fun B r o _ hB=>gZ B r o hB⟩;intro B q o hq hγ hL;have:q.k≠x.k:=by
   intro e;rw [St.jU,e] at hγ;simp [hk] at hγ
  exact ⟨kv B q o this hq hL,fun cur e fz hB=>⟨cur,hB,rfl⟩⟩
 ·intro B l hB;obtain ⟨l0,h0⟩:=hd B l hB;exact h.fq B l0 h0
 ·intro B B' r o o' h1 h2;exact h.fA B B' r o o' (p7 B r o h1) (p7 B' r o' h2)
theorem Rel.kill (h:Rel nm N S a w L) (k:Key) (hk:∀r,k≠.r r):Rel nm N (S.wr { k,v:=V.dead }) a w L:=by
 refine h.Hx { k,v:=V.dead } L rfl (fun _ h=>h) (fun _ _ _ _ _ h=>h) (fun _ _ _ h=>h) ?_ (fun B l h=>⟨l,h⟩) h.eM (fun _ _ _ h=>h);cases k with
 | s i=>exact .one .dead
 | b r c=>exact ⟨.dead,rfl,fun ji=>absurd rfl ji⟩
 | r r=>exact absurd rfl (hk r)
 | h i=>trivial
 | a k=>trivial
def cI (f:Place→Option Place) (L:aw):aw:=fun B=>
 match L B with
 | some (.row q o)=>(f q).map fun q'=>.row q' o
 | x=>x
theorem oR {f:Place→Option Place} {B o:Nat} {q:Place} (h:cI f L B=some (.row q o)):∃q0,L B=some (.row q0 o)∧f q0=some q:=by
 unfold cI at h;split at h
 ·rename_i q0 o0 hL;cases hf:f q0 with
  | none=>simp [hf] at h
  | some q1=>simp only [hf,fe,aj,bQ.row.injEq] at h;exact ⟨q0,by rw [hL,h.2],by rw [hf,h.1]⟩
 ·exact absurd h (by rename_i h1;exact h1 q o)
theorem gL {f:Place→Option Place} {B o:Nat} {q q':Place} (h:L B=some (.row q o)) (hf:f q=some q'):cI f L B=some (.row q' o):=by
 simp [cI,h,hf]
theorem jN {f:Place→Option Place} {B:Nat}:cI f L B=some .bh↔L B=some .bh:=by
 unfold cI;split
 ·rename_i q0 o0 hL;cases f q0<;>simp [hL]
 ·rfl
theorem jz {f:Place→Option Place} {B o:Nat} {r:aI}:cI f L B=some (.box r o)↔L B=some (.box r o):=by
 unfold cI;split
 ·rename_i q0 o0 hL;cases f q0<;>simp [hL]
 ·rfl
theorem G5 {f:Place→Option Place} {B:Nat} {l:bQ} (h:cI f L B=some l):∃l0,L B=some l0:=by
 unfold cI at h;split at h
 ·rename_i q0 o0 hL;exact ⟨_,hL⟩
 ·exact ⟨_,h⟩
theorem G6 {f:Place→Option Place} (h:lZ L) (hf:∀q q' t B B' o o',f q=some t→f q'=some t→L B=some (.row q o)→L B'=some (.row q' o')→q=q'):lZ (cI f L):=by
 intro B B' pl o o' h1 h2;obtain ⟨q,g1,g2⟩:=oR h1;obtain ⟨q',g3,g4⟩:=oR h2;obtain rfl:=hf q q' pl B B' o o' g2 g4 g1 g3;exact h B B' q o o' g1 g3
def eI (L:aw):Prop:=∀B q o,L B=some (.row q o)→q.k.aT=true
def qK (L:aw) (m:Nat):Prop:=∀B q o,L B=some (.row q o)→q.k≠.h m
theorem Rel.take (h:Rel nm N S a w L) (i m:Nat) (hm:qK L m) :
  ∃L',Rel nm N (S.wr { k:=.s i,v:=V.dead }) a w L'∧bD nm w L' (S.wr { k:=.s i,v:=V.dead }).γ (.h m) (S.E (.s i)) (a.tmps.getD i undef)∧
   (∀B,L B=some .bh↔L' B=some .bh)∧(∀B q o,q.k≠.s i→q.k≠.h m→(L B=some (.row q o)↔L' B=some (.row q o)))∧(∀B,L' B=none↔L B=none)∧
   (∀B r o,L B=some (.box r o)↔L' B=some (.box r o))∧(∀B q o,L' B=some (.row q o)→q.k≠.s i):=by
 let f:Place→Option Place:=fun q=>if q.k = .s i then some (q.at (.h m) q.j) else some q
 have Qa:∀q,∃t,f q=some t:=fun q=>by by_cases hq:q.k = .s i<;>simp [f,hq]
 have ql:Rel nm N (S.wr { k:=.s i,v:=V.dead }) a w (cI f L):=by
  refine h.Hx { k:=.s i,v:=V.dead } (cI f L) rfl (fun B hB=>jN.2 hB) ?_ (fun B r o hB=>jz.2 hB) (.one .dead) (fun B l hB=>G5 hB) ?_ (fun B r o hB=>jz.1 hB)
  ·intro B q o hq _ hL;exact gL hL (by simp only [f];rw [az hq])
  ·refine G6 h.eM ?_;intro q q' t B B' o o' h1 h2 hB dA;simp only [f] at h1 h2;by_cases hq:q.k = .s i
   ·rw [aJ hq] at h1;by_cases vE:q'.k = .s i
    ·rw [aJ vE] at h2;rw [←h2] at h1;simp only [aj,Place.at,Place.mk.injEq,lk] at h1;cases q;cases q';simp_all
    ·rw [az vE] at h2;rw [←h1] at h2;simp only [aj] at h2;exact absurd (by rw [h2];rfl) (hm B' q' o' dA)
   ·rw [az hq] at h1;by_cases vE:q'.k = .s i
    ·rw [aJ vE] at h2;rw [←h2] at h1;simp only [aj] at h1;exact absurd (by rw [h1];rfl) (hm B q o hB)
    ·rw [az vE] at h2;rw [←h2] at h1;simpa using h1
 refine ⟨cI f L,ql,?_,fun B=>jN.symm,?_,?_,fun B r o=>jz.symm,?_⟩
 ·refine (h.slot i).step ?_ ?_
  ·refine ⟨fun B hB=>⟨jN.2 hB,rfl⟩,S.pV _,?_,fun _ _ _ _ _ _ _=>rfl,fun B r o _ hB=>jz.2 hB⟩;intro B q o hq hγ hL;have aB:q.k≠.s i:=by intro e;rw [St.jU,e] at hγ;simp at hγ
   exact ⟨gL hL (by simp only [f];rw [az aB]),fun cur e fz hB=>⟨cur,hB,rfl⟩⟩
  ·intro B q o hq hL;exact ⟨gL hL (by simp only [f];rw [aJ hq]),rfl⟩
 ·intro B q o h1 h2;constructor
  ·intro hL;exact gL hL (by simp only [f];rw [az h1])
  ·intro hL;obtain ⟨q0,h3,h4⟩:=oR hL;simp only [f] at h4;by_cases hq:q0.k = .s i
   ·rw [aJ hq] at h4;simp only [aj] at h4;exact absurd (by rw [←h4];rfl) h2
   ·rw [az hq] at h4;simp only [aj] at h4;rw [←h4];exact h3
 ·intro B;unfold cI;split
  ·rename_i q0 o0 hL;obtain ⟨t,ht⟩:=Qa q0;simp [hL,ht]
  ·rfl
 ·intro B q o hL;obtain ⟨q0,h3,h4⟩:=oR hL;simp only [f] at h4;by_cases hq:q0.k = .s i
  ·rw [aJ hq] at h4;simp only [aj] at h4;rw [←h4];simp [Place.at]
  ·rw [az hq] at h4;simp only [aj] at h4;rw [←h4];exact hq
theorem Rel.adn (h:Rel nm N S a w L) {i m:Nat} {x:V} {v:Value} (hi:i < N) (hv:bD nm w L S.γ (.h m) x v) :
  ∃L',Rel nm N (S.wr { k:=.s i,v:=x }) (a.put (some i) v) w L'∧eI L'∧de w w L L'∧
   (∀B q o,q.k≠.s i→q.k.aT=true→L B=some (.row q o)→L' B=some (.row q o)):=by
 let f:Place→Option Place:=fun q=>if q.k = .s i then none else if q.k = .h m then some (q.at (.s i) q.j) else if q.k.aT=false then none else some q
 have df:∀B q o,q.k≠.s i→q.k.aT=true→L B=some (.row q o)→cI f L B=some (.row q o):=by
  intro B q o h1 h2 hL;have h3:q.k≠.h m:=fun e=>by rw [e] at h2;simp [Key.aT] at h2
  exact gL hL (by simp only [f];rw [az h1,az h3,az (by rw [h2];simp)])
 have bA:Step w w L (cI f L) S.γ (S.wr { k:=.s i,v:=x }).γ:=by
  refine ⟨fun B hB=>⟨jN.2 hB,rfl⟩,S.pV _,?_,fun _ _ _ _ _ _ _=>rfl,fun B r o _ hB=>jz.2 hB⟩;intro B q o hq hγ hL;have aB:q.k≠.s i:=by intro e;rw [St.jU,e] at hγ;simp at hγ
  exact ⟨df B q o aB hq hL,fun cur e fz hB=>⟨cur,hB,rfl⟩⟩
 have QE:(a.put (some i) v).tmps=a.tmps.setIfInBounds i v:=rfl;refine ⟨cI f L,?_,?_,?_,df⟩
 ·refine h.write { k:=.s i,v:=x } (by simp [QE]) h.defers ?_ bA (fun B q o h1 h2 h3=>⟨df B q o h1 h2 h3,rfl⟩) (fun B r o _ hL=>⟨jz.2 hL,fun cur e fz hB=>⟨cur,hB,rfl,fun _ _=>rfl⟩⟩) ?_ ?_ ?_ ?_
  ·intro j hj;rw [QE];have aB:i≠j:=fun e=>hj (by rw [e])
   simp [iw,yA aB]
  ·show bD nm w (cI f L) _ (.s i) x ((a.put (some i) v).tmps.getD i undef);have hg:(a.put (some i) v).tmps.getD i undef=v:=by
    rw [QE];have:i < a.tmps.size:=by rw [h.size];exact hi
    simp [iw,wM,this]
   rw [hg];refine hv.step bA ?_;intro B q o hq hL;exact ⟨gL hL (by simp only [f];rw [az (by rw [hq];simp),aJ hq]),rfl⟩
  ·intro B l hB;obtain ⟨l0,h0⟩:=G5 hB;exact h.fq B l0 h0
  ·refine G6 h.eM ?_;intro q q' t B B' o o' h1 h2 _ _;simp only [f] at h1 h2;by_cases hq:q.k = .s i
   ·simp [hq] at h1
   by_cases vE:q'.k = .s i
   ·simp [vE] at h2
   rw [az hq] at h1;rw [az vE] at h2;by_cases Ca:q.k = .h m
   ·rw [aJ Ca] at h1;by_cases vz:q'.k = .h m
    ·rw [aJ vz] at h2;rw [←h2] at h1;simp only [aj,Place.at,Place.mk.injEq,lk] at h1;cases q;cases q';simp_all
    ·rw [az vz] at h2;split at h2
     ·simp at h2
     ·rw [←h1] at h2;simp only [aj] at h2;exact absurd (by rw [h2];rfl) vE
   ·rw [az Ca] at h1;split at h1
    ·simp at h1
    ·by_cases vz:q'.k = .h m
     ·rw [aJ vz] at h2;rw [←h2] at h1;simp only [aj] at h1;exact absurd (by rw [h1];rfl) hq
     ·rw [az vz] at h2;split at h2
      ·simp at h2
      ·rw [←h2] at h1;simpa using h1
  ·intro B B' r o o' h1 h2;exact h.fA B B' r o o' (jz.1 h1) (jz.1 h2)
 ·intro B q o hB;obtain ⟨q0,h1,h2⟩:=oR hB;simp only [f] at h2;split at h2
  ·simp at h2
  ·split at h2
   ·simp only [aj] at h2;rw [←h2];rfl
   ·split at h2
    ·simp at h2
    ·rename_i h3;simp only [aj] at h2;rw [←h2];simpa using h3
 ·refine ⟨rfl,rfl,rfl,bT _,fun B hB=>⟨jN.2 hB,rfl⟩,?_,fun B i o hB=>jz.2 hB⟩;intro B _ hB;exact ⟨by simp [cI,hB],rfl⟩
theorem bD.setCell {w':World} {L':aw} {γ γ':Key→Nat} {k:Key} {x:V} {v:Value} {j:Nat} {c c':C} (h:bD nm w L γ k x v) (hc:x.cells[j]? = some c)
  (hs:Step w w' L L' γ γ')
  (kv:∀B q o,q.k=k→q.j≠j→L B=some (.row q o)→L' B=some (.row q o)∧w'.heap[B]? = w.heap[B]?)
  (hj:∀u,aF nm w L γ k j c u→aF nm w' L' γ' k j c' u):bD nm w' L' γ' k (x.setCell j c') v:=by
 cases h with
 | @one c0 _ h=>
  simp only [V.cells] at hc;cases j with
  | zero=>
   simp only [kD,aj] at hc;subst hc;simp only [V.setCell,bV];exact .one (hj _ h)
  | succ j=>simp at hc
 | @agg cs vs hl h=>
  simp only [V.cells] at hc;simp only [V.setCell];refine .agg (by simpa using hl) ?_;intro j' c1 u h1 h2;rw [M9] at h1;by_cases Qj:j=j'
  ·subst Qj;simp only [bV] at h1;split at h1
   ·simp only [aj] at h1;subst h1;exact hj u (h j c u hc h2)
   ·simp at h1
  ·simp only [Qj,dE] at h1;refine (h j' c1 u h1 h2).step hs ?_;intro B q o vF JF hL;have:=kv B q o vF (by rw [JF];exact fun e=>Qj e.symm) hL;rwa [←vF,←JF,Place.l9]
 | aq=>simp [V.cells] at hc
open Classical in
noncomputable def gY (t:Place) (L:aw):aw:=fun B=>
 match L B with
 | some (.row q o)=>if bE t q then some .bh else some (.row q o)
 | x=>x
theorem pq {t:Place} {B:Nat} (h:L B=some .bh):gY t L B=some .bh:=by simp [gY,h]
theorem xc {t:Place} {B o:Nat} {r:aI}:gY t L B=some (.box r o)↔L B=some (.box r o):=by
 unfold gY;split
 ·rename_i q0 o0 hL;rw [hL];split<;>simp
 ·rfl
theorem sk {t q:Place} {B o:Nat} (h:L B=some (.row q o)) (hn:¬ bE t q):gY t L B=some (.row q o):=by simp [gY,h,hn]
theorem xd {t q:Place} {B o:Nat} (h:L B=some (.row q o)) (hn:bE t q):gY t L B=some .bh:=by simp [gY,h,hn]
theorem BK {t q:Place} {B o:Nat} (h:gY t L B=some (.row q o)):L B=some (.row q o)∧¬ bE t q:=by
 unfold gY at h;split at h
 ·rename_i q0 o0 hL;split at h
  ·simp at h
  ·rename_i hn;simp only [aj,bQ.row.injEq] at h;obtain ⟨rfl,rfl⟩:=h;exact ⟨hL,hn⟩
 ·rename_i h1;exact absurd h (h1 q o)
theorem Ye {t:Place} {B:Nat} {l:bQ} (h:gY t L B=some l):∃l0,L B=some l0:=by
 unfold gY at h;split at h
 ·rename_i q0 o0 hL;exact ⟨_,hL⟩
 ·exact ⟨_,h⟩
theorem aiN {t:Place} {B:Nat}:gY t L B=none↔L B=none:=by
 unfold gY;split
 ·rename_i q0 o0 hL;rw [hL];split<;>simp
 ·rfl
theorem Yf {t:Place} (h:lZ L):lZ (gY t L):=fun B B' pl o o' h1 h2=>h B B' pl o o' (BK h1).1 (BK h2).1
theorem Yg (t:Place):de w w L (gY t L):=
 ⟨rfl,rfl,rfl,bT _,fun B hB=>⟨pq hB,rfl⟩,fun B _ hB=>⟨aiN.2 hB,rfl⟩,fun B i o hB=>xc.2 hB⟩
theorem bE.key {t q:Place} (h:bE t q):q.k=t.k∧q.j=t.j:=by obtain ⟨r,rfl⟩:=h;exact ⟨rfl,rfl⟩
theorem NY (S:St) (k k':Key):S.γ k'≤bump S k k':=by unfold bump;split<;>omega
theorem Em {S:St} {k k':Key} (h:bump S k k'=S.γ k'):k'≠k:=by
 intro e;subst e;simp [bump] at h
theorem Rel.ac3 (h:Rel nm N S a w L) {k:Key} {j:Nat} {c c':C} {L':aw}
  (hk:(∃i,k = .s i)∨∃r c,k = .b r c) (hE:(S.E k).cells[j]? = some c) (Jj:c≠.dead)
  (fT:∀B,L B=some .bh→L' B=some .bh)
  (kv:∀B q o,q.k≠k→q.k.aT=true→L B=some (.row q o)→L' B=some (.row q o))
  (ajL:∀B q o,q.k=k→q.j≠j→L B=some (.row q o)→L' B=some (.row q o))
  (gZ:∀B r o,L' B=some (.box r o)↔L B=some (.box r o))
  (hd:∀B l,L' B=some l→∃l0,L B=some l0) (oG:lZ L')
  (fE:∀u,aF nm w L S.γ k j c u→aF nm w L' (bump S k) k j c' u) (PY:∀t,c'≠.bt t:=by intro t h;cases h) :
  Rel nm N (S.wr { k,v:=(S.E k).setCell j c' }) a w L':=by
 have bA:Step w w L L' S.γ (bump S k):=by
  refine ⟨fun B hB=>⟨fT B hB,rfl⟩,NY S k,?_,fun _ _ _ _ _ _ _=>rfl,fun B r o _ hB=>(gZ B r o).2 hB⟩;intro B q o hq hγ hL;exact ⟨kv B q o (Em hγ) hq hL,fun cur e fz hB=>⟨cur,hB,rfl⟩⟩
 refine h.Hx _ _ rfl fT (fun B q o h1 h2 h3=>kv B q o h1 h2 h3) (fun B r o hB=>(gZ B r o).2 hB) ?_ hd oG (fun B r o hB=>(gZ B r o).1 hB);rw [D3];rcases hk with ⟨i,rfl⟩ | ⟨r,cc,rfl⟩
 ·exact (h.slot i).setCell hE bA (fun B q o h1 h2 hL=>⟨ajL B q o h1 h2 hL,rfl⟩) fE
 ·obtain ⟨c0,vh⟩:=h.kf r cc;rw [vh] at hE;simp only [V.cells] at hE;cases j with
  | succ j=>simp at hE
  | zero=>
   simp only [kD,aj] at hE;subst hE;have af:cc < cm (S.E (.r r)):=by
    refine Nat.lt_of_not_le fun hle=>Jj ?_
    have:=h.bound r cc hle;rw [vh] at this;simpa using this
   refine ⟨c',by simp [vh,V.setCell],fun _=>⟨af,?_⟩⟩;have hold:=h.cell r cc _ vh Jj;cases r with
   | g i=>obtain ⟨v,hv⟩:=hold;exact ⟨v,fE v hv⟩
   | e i=>obtain ⟨B,o,cur,e,fz,v,h1,h2,h3,h4,h5⟩:=hold;exact ⟨B,o,cur,e,fz,v,(gZ _ _ _).2 h1,h2,h3,h4,fE v h5.1,.of PY⟩
   | l i=>obtain ⟨B,o,cur,e,fz,v,h1,h2,h3,h4,h5⟩:=hold;exact ⟨B,o,cur,e,fz,v,(gZ _ _ _).2 h1,h2,h3,h4,fE v h5.1,.of PY⟩
theorem Rel.aiM (h:Rel nm N S a w L) {k:Key} {j:Nat} {p:List (Nat×Nat)} {x:D} {sz:Nat} {rows:List (List D)}
  (hk:(∃i,k = .s i)∨∃r c,k = .b r c) (hE:(S.E k).cells[j]? = some (.d x)) (hn:eu x p=some (.sl .own sz rows)) :
  Rel nm N (S.wr { k,v:=(S.E k).setCell j (.d (eF x p (.sl (.im false) sz (aW rows)))) }) a w (gY ⟨k,j,p⟩ L):=by
 refine h.ac3 hk hE (by simp) (fun B hB=>pq hB) (fun B q o hq _ hL=>sk hL (fun hu=>hq hu.key.1)) (fun B q o _ hq hL=>sk hL (fun hu=>hq hu.key.2))
  (fun B r o=>xc) (fun B l hB=>Ye hB) (Yf h.eM) ?_
 intro u hu;cases hu with
 | d hd=>
  refine .d ?_;have BX:(⟨k,j,[]⟩:Place).app p=⟨k,j,p⟩:=by simp [Place.app]
  refine br.subst p hd hn (fun B hB=>⟨pq hB,rfl⟩) ?_ ?_ rfl
  ·intro B' q o' _ h2 h3;rw [BX] at h2;exact sk h3 h2
  ·intro u' jv;rw [BX] at jv ⊢;refine .plain ?_;have:=br.freeze (w':=w) (L':=gY ⟨k,j,p⟩ L) (bE ⟨k,j,p⟩) (fun q i c h=>h.sub i c) (fun B hB=>⟨pq hB,rfl⟩) (fun B q o hq hL=>⟨xd hL hq,rfl⟩) jv (bE.refl _);simpa [kY] using this
theorem Rel.grow (h:Rel nm N S a w L) {w':World} {L':aw} (ej:∀B l,L B=some l→w'.heap[B]? = w.heap[B]?) (hL:∀B l,L B=some l→L' B=some l)
  (hd:rV w' L') (oG:lZ L') (p7:D5 L'):Rel nm N S a w' L':=by
 have bA:Step w w' L L' S.γ S.γ:=by
  refine ⟨fun B hB=>⟨hL B _ hB,ej B _ hB⟩,fun _=>bT _,?_,fun B q o _ _ _ hB=>ej B _ hB,fun B r o _ hB=>hL B _ hB⟩;intro B q o _ _ hB;exact ⟨hL B _ hB,fun cur e fz hc=>⟨cur,(ej B _ hB).trans hc,rfl⟩⟩
 refine ⟨h.size,h.defers,?_,?_,h.kf,h.bound,fun r hg hr=>let ⟨B,o,cur,e,fz,h1,h2,h3,h4⟩:=h.room r hg hr;⟨B,o,cur,e,fz,hL B _ h1,(ej B _ h1).trans h2,h3,h4⟩,hd,oG,p7⟩
 ·intro i;refine (h.slot i).step bA ?_;intro B q o hq hB;refine ⟨?_,ej B _ hB⟩;rw [←hq,Place.l9];exact hL B _ hB
 ·intro r c x hx gj;exact (h.cell r c x hx gj).step bA (fun B q o _ hB=>⟨hL B _ hB,ej B _ hB⟩) (fun B o hB=>⟨hL B _ hB,fun cur e fz hc=>⟨cur,(ej B _ hB).trans hc,rfl,rfl⟩⟩)
theorem Rel.drew (h:Rel nm N S a w L):Rel nm N S a w.drew L:=
 h.grow (fun _ _ _=>rfl) (fun _ _ h=>h) h.fq h.eM h.fA
theorem de.drew (w:World) (L:aw):de w w.drew L L:=⟨rfl,rfl,rfl,bT _,fun _ h=>⟨h,rfl⟩,fun _ _ h=>⟨h,rfl⟩,fun _ _ _ h=>h⟩
def aw.put (L:aw) (B:Nat) (l:bQ):aw:=fun B'=>if B'=B then some l else L B'
theorem aw.la (L:aw) (B:Nat) (l:bQ):L.put B l B=some l:=by simp [aw.put]
theorem aw.gy {L:aw} {B B':Nat} {l:bQ} (h:B'≠B):L.put B l B'=L B':=by simp [aw.put,h]
theorem oD (w:World) (o:Obj):(w.alloc o).heap[w.heap.size]? = some o:=by
 show (w.heap.push o)[w.heap.size]? = _;simp
theorem mV (w:World) (o:Obj) {B:Nat} (h:B≠w.heap.size):(w.alloc o).heap[B]? = w.heap[B]?:=by
 show (w.heap.push o)[B]? = _;rw [UA,az (fun e=>h e)]
theorem rV.new (h:rV w L):L w.heap.size=none:=by
 cases hl:L w.heap.size with
 | none=>rfl
 | some l=>exact absurd (h _ _ hl) (UX _)
theorem de.alloc (w:World) (L:aw) (hd:rV w L) (o:Obj) (l:bQ):de w (w.alloc o) L (L.put w.heap.size l):=by
 refine ⟨rfl,rfl,rfl,by simp,?_,?_,fun B i o hB=>by rw [aw.gy (fun e=>by rw [e,hd.new] at hB;cases hB)];exact hB⟩
 ·intro B hB;have:B≠w.heap.size:=fun e=>by rw [e,hd.new] at hB;cases hB
  exact ⟨by rw [aw.gy this];exact hB,mV w _ this⟩
 ·intro B af hB;have:B≠w.heap.size:=by omega
  exact ⟨by rw [aw.gy this];exact hB,mV w _ this⟩
end
end
section
theorem abb {S:St}:∀(p:List (Nat×Nat)) (x y:D),(xQ x p).run S=some y→eu x p=some y
 | [],x,y,h=>by
  have:x=y:=by cases x<;>simpa [xQ] using h
  subst this;cases x<;>rfl
 | (i,c)::p,x,y,h=>by
  cases x with
  | sl t sz rows=>
   cases t with
   | own=>
    simp only [xQ,Q.run_bind,Q.yp] at h;rw [eu];cases h1:rows[i]? with
    | none=>simp [h1] at h
    | some row=>
     simp only [h1,Option.bind_some] at h ⊢;cases h2:row[c]? with
     | none=>simp [h2] at h
     | some z=>
      simp only [h2,Option.bind_some] at h ⊢;cases h3:(Q.NK z).run S with
      | none=>simp [h3] at h
      | some z'=>
       simp only [h3,Option.bind_some] at h;obtain rfl:=Q.apg S h3;exact abb p _ _ h
   | im b=>simp [xQ] at h
  | _=>simp [xQ] at h
theorem ux {S:St} {ws:List Wr} {pl:Place} {g sz:Nat} {r:mL×D×List (List D)} (h:(jw ws pl g sz).run S=some r) :
  r.1=⟨(S.ah ws).E pl.k,S.γ pl.k⟩∧g=S.γ pl.k∧((S.ah ws).E pl.k).cells[pl.j]? = some (.d r.2.1)∧eu r.2.1 pl.p=some (.sl .own sz r.2.2):=by
 unfold jw at h;simp only [Q.run_bind,uZ,Option.bind_some,Q.lB] at h;by_cases hg:(S.γ pl.k==g)=true
 ·simp only [hg,bV,Option.bind_some] at h;cases hc:((S.ah ws).E pl.k).cells[pl.j]? with
  | none=>simp [hc] at h
  | some c=>
   rw [hc] at h;cases c with
   | d x=>
    simp only [Q.run_bind] at h;cases nL:(xQ x pl.p).run S with
    | none=>simp [nL] at h
    | some y=>
     have hn:=abb _ _ _ nL;simp only [nL,Option.bind_some] at h;cases y with
     | sl t cw rows=>
      cases t with
      | own=>
       simp only [Q.run_bind,Q.lB] at h;by_cases hs:(cw==sz)=true
       ·simp only [hs,bV,Option.bind_some,Q.run_pure,aj] at h;have lN:cw=sz:=by simpa using hs
        subst h;subst lN;exact ⟨rfl,by simpa using (eV.1 hg).symm,rfl,hn⟩
       ·simp [hs] at h
      | im b=>simp at h
     | int=>simp at h
     | bool=>simp at h
     | str=>simp at h
     | dead=>simp at h
   | _=>simp at h
 ·simp [hg] at h
theorem Step.trans {w1 w2 w3:World} {L1 L2 L3:aw} {γ1 γ2 γ3:Key→Nat} (h:Step w1 w2 L1 L2 γ1 γ2) (k:Step w2 w3 L2 L3 γ2 γ3):Step w1 w3 L1 L3 γ1 γ3:=by
 have hle:∀x,γ3 x=γ1 x→γ2 x=γ1 x∧γ3 x=γ2 x:=fun x e=>by
  have h1:=h.dQ x;have h2:=k.dQ x;omega
 refine ⟨fun B hB=>⟨(k.bh B (h.bh B hB).1).1,(k.bh B (h.bh B hB).1).2.trans (h.bh B hB).2⟩,fun x=>iQ (h.dQ x) (k.dQ x),?_,?_,?_⟩
 ·intro B q o hq he hB;obtain ⟨e1,e2⟩:=hle _ he;obtain ⟨g1,g2⟩:=h.view B q o hq e1 hB;obtain ⟨g3,g4⟩:=k.view B q o hq e2 g1;refine ⟨g3,fun cur e fz hc=>?_⟩;obtain ⟨dR,g5,g6⟩:=g2 cur e fz hc;obtain ⟨afJ,g7,g8⟩:=g4 dR e fz g5;exact ⟨afJ,g7,g8.trans g6⟩
 ·intro B q o hq he ha hB;obtain ⟨e1,e2⟩:=hle _ he;obtain ⟨e3,e4⟩:=hle _ ha;exact (k.app B q o hq e2 e4 (h.view B q o hq e1 hB).1).trans (h.app B q o hq e1 e3 hB)
 ·intro B r o he hB;obtain ⟨e1,e2⟩:=hle _ he;exact k.box B r o e2 (h.box B r o e1 hB)
structure ch (nm:FuncId→Option Nat) (N:Nat) (S0:St) (w0:World) (L0:aw) (ws:List Wr) (a:Act) (w:World) (L:aw):Prop where
 rel:Rel nm N (S0.ah ws) a w L
 di:Step w0 w L0 L S0.γ (S0.ah ws).γ
 mono:de w0 w L0 L
 rows:∀B q o,q.k.aT=true→L B=some (.row q o)→L0 B=some (.row q o)
 heap:∀B l,L0 B=some l→w.heap[B]? = w0.heap[B]?
 vM:lZ L0
 boxes:∀B r o,L0 B=some (.box r o)→L B=some (.box r o)
section
variable {nm:FuncId→Option Nat} {N:Nat} {S0:St} {w0:World} {L0:aw} {ws:List Wr} {a:Act} {w:World} {L:aw}
theorem ch.init {S:St} (h:Rel nm N S a w L):ch nm N S w L [] a w L:=
 ⟨h,Step.same w L (fun _=>bT _),de.refl w L,fun _ _ _ _ h=>h,fun _ _ _=>rfl,h.eM,fun _ _ _ h=>h⟩
theorem ch.freeze (M:ch nm N S0 w0 L0 ws a w L) {k:Key} {j:Nat} {p:List (Nat×Nat)} {x:D} {sz:Nat} {rows:List (List D)}
  (hk:k.aT=true) (hE:((S0.ah ws).E k).cells[j]? = some (.d x)) (hn:eu x p=some (.sl .own sz rows)) :
  ch nm N S0 w0 L0 (nj ws k (((S0.ah ws).E k).setCell j (.d (eF x p (.sl (.im false) sz (aW rows)))))) a w (gY ⟨k,j,p⟩ L):=by
 have iG:(∃i,k = .s i)∨∃r c,k = .b r c:=by
  cases k with
  | s i=>exact .inl ⟨i,rfl⟩
  | b r c=>exact .inr ⟨r,c,rfl⟩
  | _=>simp [Key.aT] at hk
 have ql:=M.rel.aiM iG hE hn;refine ⟨ql,M.di.trans ?_,M.mono.trans (Yg _),fun B q o hq hB=>M.rows B q o hq (BK hB).1,M.heap,M.vM,fun B r o hB=>xc.2 (M.boxes B r o hB)⟩;show Step w w L _ (S0.ah ws).γ ((S0.ah ws).wr { k,v:=_ }).γ;rw [D3];refine ⟨fun B hB=>⟨pq hB,rfl⟩,NY _ k,?_,fun _ _ _ _ _ _ _=>rfl,fun B r o _ hB=>xc.2 hB⟩;intro B q o hq hγ hL;exact ⟨sk hL (fun hu=>Em hγ hu.key.1),fun cur e fz hB=>⟨cur,hB,rfl⟩⟩
theorem aqm {t:Place} {sz off len:Nat} {rows:List (List D)} {u v:Value} {w0:World} {L0 L:aw} (qX:lZ L0)
  (vG:∀B o,L B=some (.row t o)→L0 B=some (.row t o))
  (hd:br w L t (.sl .own sz rows) u) (hv:A4 w0 L0 t sz off len v) (hle:off+len≤rows.length) :
  fK w (gY t L) (.sl (.im false) sz (aW ((rows.drop off).take len))) v:=by
 by_cases hlen:len=0
 ·subst hlen;simp only [A0,aW];rcases hv with ⟨_,a,rfl⟩ | ⟨B,o,cap,cur,e,fz,rfl,_⟩
  ·exact .mB
  ·exact .mB
 rcases hv with ⟨h0,_⟩ | ⟨B,o,cap,afK,e0,Yi,rfl,aZ,p5,_,_,ajw,_⟩
 ·exact absurd h0 hlen
 rcases hd.nS with ⟨rfl,_⟩ | ⟨B',o',yW,cur,e,fz,val,rfl,_,hL,hB,cX,fM,dL,dG,cu,hr,dY⟩
 ·simp at hle;omega
 have ff:=vG B' o' hL;obtain rfl:=qX B' B t o' o ff p5;obtain rfl:o'=o:=by rw [ff] at p5;simpa using p5
 have hl:((rows.drop off).take len).length=len:=by simp;omega
 have fE:∀i c x,cellOf (aW ((rows.drop off).take len)) i c=some x→∃y,cellOf rows (off+i) c=some y∧x=kY y∧i < len:=by
  intro i c x hx;rw [Bl] at hx;cases hy:cellOf ((rows.drop off).take len) i c with
  | none=>simp [hy] at hx
  | some y=>
   simp only [hy,fe,aj] at hx;obtain ⟨r,h1,h2⟩:=kL.1 hy;have kP:i < len:=by
    have:=(cB.1 h1).1;omega
   refine ⟨y,kL.2 ⟨r,?_,h2⟩,hx.symm,kP⟩;rw [yD kP,tC] at h1;exact h1
 have cr:(aW ((rows.drop off).take len)).length=len:=by rw [Ao,hl]
 have:fK w (gY t L) (.sl (.im false) sz (aW ((rows.drop off).take len))) (.slice (some ⟨B',o'+off * sz,none⟩) (aW ((rows.drop off).take len)).length cap):=by
  refine .pl (cur:=cur) (e:=e) (fz:=fz) (fun i c=>val (off+i) c) ?_ aZ (by rw [cr];exact ajw) (xd hL (bE.refl _)) hB ?_ ?_ ?_
  ·intro h;rw [h] at cr;simp at cr;omega
  ·intro r eU;rw [Dl] at eU;obtain ⟨r1,h1,rfl⟩:=iz.1 eU;simpa using fM r1 (Nd (tD h1))
  ·intro i c x hx;obtain ⟨y,h1,_,_⟩:=fE i c x hx;have:=cu _ _ _ h1;rw [lI] at this;rw [show o'+off * sz+i * sz+c=o'+(off * sz+i * sz)+c by omega];exact this
  ·intro i c x hx;obtain ⟨y,h1,rfl,_⟩:=fE i c x hx;exact br.freeze (bE t) (fun q i c h=>h.sub i c) (fun B hB=>⟨pq hB,rfl⟩) (fun B q o hq hL=>⟨xd hL hq,rfl⟩) (hr _ _ _ h1) ((bE.refl t).sub _ _)
 rwa [cr] at this
theorem Rel.afr {S:St} (h:Rel nm N S a w L) {k:Key} {j:Nat} {x:D} (hk:k.aT=true)
  (hE:(S.E k).cells[j]? = some (.d x)):∃u,br w L ⟨k,j,[]⟩ x u:=by
 cases k with
 | s i=>
  have:=h.slot i;cases hv:S.E (.s i) with
  | one c=>
   rw [hv] at this hE;cases this with
   | one hc=>
    cases j with
    | succ j=>simp [V.cells] at hE
    | zero=>
     simp only [V.cells,kD,aj] at hE;subst hE;cases hc with
     | d hd=>exact ⟨_,hd⟩
  | agg cs=>
   rw [hv] at this hE;generalize a.tmps.getD i undef=v0 at this;cases this with
   | agg hl hc=>
    rename_i vs;simp only [V.cells] at hE;have hj:j < vs.size:=by rw [←hl];exact (cB.1 hE).1
    have:=hc j _ vs[j] hE (by simp [hj]);cases this with
    | d hd=>exact ⟨_,hd⟩
  | aq vs=>simp [hv,V.cells] at hE
 | b r c=>
  obtain ⟨c0,hv⟩:=h.kf r c;rw [hv] at hE;cases j with
  | succ j=>simp [V.cells] at hE
  | zero=>
   simp only [V.cells,kD,aj] at hE;subst hE;have fE:=h.cell r c _ hv (by simp);cases r with
   | g i=>obtain ⟨v,hv⟩:=fE;cases hv with | d hd=>exact ⟨_,hd⟩
   | e i=>obtain ⟨B,o,cur,e,fz,v,_,_,_,_,hv,_⟩:=fE;cases hv with | d hd=>exact ⟨_,hd⟩
   | l i=>obtain ⟨B,o,cur,e,fz,v,_,_,_,_,hv,_⟩:=fE;cases hv with | d hd=>exact ⟨_,hd⟩
 | r r=>simp [Key.aT] at hk
 | h i=>simp [Key.aT] at hk
 | a k=>simp [Key.aT] at hk
theorem br.adl {pl:Place} {sz:Nat} {rows:List (List D)} {v:Value} (h:br w L pl (.sl .own sz rows) v):Vi rows.length v:=by
 rcases h.nS with ⟨rfl,a,rfl⟩ | ⟨B,o,cap,cur,e,fz,val,rfl,aZ,hL,hB,cX,fM,dL,dG,cu,hr,dY⟩
 ·exact ⟨_,_,rfl,bT _,rfl⟩
 ·exact ⟨_,_,rfl,dL,rfl⟩
theorem aF.look {γ:Key→Nat} {k:Key} {j:Nat} {c:C} {v:Value} (hk:k.aT=true) (h:aF nm w L γ k j c v) (k':Key) (j':Nat) :
  aF nm w L γ k' j' (c.look k (γ k) j) v:=by
 by_cases tW:∃t,c = .bt t
 ·obtain ⟨t,rfl⟩:=tW;exact .dead
 cases hc:c.own with
 | false=>
  have:c.look k (γ k) j=c:=by
   cases c with
   | d x=>
    cases x with
    | sl t sz rows=>cases t<;>simp_all [C.own,C.look]
    | _=>rfl
   | c7=>simp [C.own] at hc
   | bt t=>exact absurd ⟨t,rfl⟩ tW
   | mp=>simp [C.own] at hc
   | _=>rfl
  rw [this];exact h.any (h.u4 hc) _ _
 | true=>
  cases h with
  | @d x v h=>
   cases x with
   | sl t sz rows=>
    cases t with
    | own=>
     simp only [C.look];refine .view h.adl hk (bT _) (fun _=>?_);rcases h.nS with ⟨rfl,a,rfl⟩ | ⟨B,o,cap,cur,e,fz,val,rfl,aZ,hL,hB,cX,fM,dL,dG,cu,hr,dY⟩
     ·exact .inl ⟨rfl,a,rfl⟩
     ·exact .inr ⟨B,o,cap,cur,e,fz,by simp,aZ,hL,hB,cX,dL,by omega,fun _ h0=>dY (.inr (pS.1 h0))⟩
    | im b=>simp [C.own] at hc
   | _=>simp [C.own] at hc
  | c7=>simp only [C.look];exact .dead
  | bt=>exact absurd ⟨_,rfl⟩ tW
  | mp=>simp only [C.look];exact .dead
  | _=>simp [C.own] at hc
theorem aaN (k:Key) (g:Nat):∀(cs:List C) (j0 j:Nat),(ur k g j0 cs)[j]? = (cs[j]?).map fun c=>c.look k g (j0+j)
 | [],_,_=>by simp [ur]
 | c::cs,j0,0=>by simp [ur]
 | c::cs,j0,j+1=>by
  simp only [ur,yB];rw [aaN k g cs (j0+1) j];congr 1;funext c;congr 1;omega
theorem aaO (k:Key) (g:Nat):∀(cs:List C) (j0:Nat),(ur k g j0 cs).length=cs.length
 | [],_=>rfl
 | c::cs,j0=>by simp [ur,aaO k g cs]
theorem bD.look {γ:Key→Nat} {k:Key} {x:V} {v:Value} (hk:k.aT=true) (h:bD nm w L γ k x v) (k':Key):bD nm w L γ k' (x.look k (γ k)) v:=by
 cases h with
 | one h=>exact .one (h.look hk _ _)
 | agg hl h=>
  refine .agg (by rw [aaO];exact hl) ?_;intro j c u h1 h2;rw [aaN] at h1;simp only [dc] at h1;rename_i cs vs;cases hc:cs[j]? with
  | none=>simp [hc] at h1
  | some c0=>
   simp only [hc,fe,aj] at h1;subst h1;exact (h j c0 u hc h2).look hk _ _
 | aq hl aR h=>exact .aq hl aR (fun i x u h1 h2=>(h i x u h1 h2).any (Ex aR h1) _)
inductive bR (nm:FuncId→Option Nat):X→Operand→Prop where
 | s {i}:bR nm (.s i) (.tmp i)
 | t {i}:bR nm (.t i) (.tmp i)
 | c {x v} (h:∀(w:World) (L:aw) (γ:Key→Nat) (k:Key),bD nm w L γ k x v):bR nm (.c x) (.const v)
 | f {n f} (h:nm f=some n) (ht:n < kN):bR nm (.f n) (.func f)
theorem acr {S:St} (h:Rel nm N S a w L) {x:X} {o:Operand} (ho:bR nm x o) {v:V} (hr:(rd x).run S=some v) (k:Key) :
  bD nm w L S.γ k v (a.eval o):=by
 cases ho with
 | @s i=>
  simp only [rd,Q.run_bind,Q.uD,Option.bind_some,Q.run_pure,aj] at hr;subst hr;exact (h.slot i).look rfl k
 | @t i=>
  simp only [rd,Q.run_bind,Q.uD,Option.bind_some,Q.run_pure,aj] at hr;subst hr;exact (h.slot i).look rfl k
 | @c x v hc=>
  simp only [rd,Q.run_pure,aj] at hr;subst hr;exact hc w L S.γ k
 | @f n cH hf ht=>
  simp only [rd,Q.run_pure,aj] at hr;subst hr;exact .one (.fn (fs:=#[]) (cs:=#[]) ht hf rfl rfl ⟨rfl,rfl⟩ (fun i x u h=>by simp at h) (fun i x u h=>by simp at h))
theorem aF.rD {w':World} {L':aw} {γ γ':Key→Nat} (hs:Step w w' L L' γ γ') {k:Key} {j:Nat} {c:C} {v:Value} (h:aF nm w L γ k j c v)
  (hc:c.clean=true) (k':Key) (j':Nat):aF nm w' L' γ' k' j' c v:=by
 induction h with
 | @d x v h=>
  cases h with
  | plain h=>exact .d (.plain (h.mono hs.bh))
  | jm=>simp [C.clean] at hc
  | own=>simp [C.clean] at hc
 | @ptr r g c v hv hg h=>
  refine .ptr hv (iQ hg (hs.dQ _)) ?_;intro he;have:γ' (.r r)=γ (.r r):=uQ (he▸hg) (hs.dQ _);obtain ⟨B,o,h1,h2⟩:=h (he.trans this);exact ⟨B,o,hs.box B r o this h1,h2⟩
 | @eD pl g sz i c v hv hh hg h=>
  refine .eD hv hh (iQ hg (hs.dQ _)) ?_;intro he;have:γ' pl.k=γ pl.k:=uQ (he▸hg) (hs.dQ _);obtain ⟨B,o,h1,h2⟩:=h (he.trans this);exact ⟨B,o,(hs.view B pl o hh this h1).1,h2⟩
 | pp hL hB h=>
  refine .pp (hs.bh _ hL).1 ((hs.bh _ hL).2.trans hB) ?_;intro q x hx;obtain ⟨u,h1,h2⟩:=h q x hx;exact ⟨u,h1,h2.mono hs.bh⟩
 | @view pl g sz off len v hv hh hg h=>
  refine .view hv hh (iQ hg (hs.dQ _)) ?_;intro he;have:γ' pl.k=γ pl.k:=uQ (he▸hg) (hs.dQ _);exact (h (he.trans this)).step hs hh this
 | c7=>simp [C.clean] at hc
 | fn jH hf h1 h2 aR h3 h4 sL sM=>
  exact .fn jH hf h1 h2 aR (fun i x u hx hu=>sL i x u hx hu (kj aR.1 hx)) (fun i x u hx hu=>sM i x u hx hu (kj aR.2 hx))
 | fns val hf hL hB aR hv h ih=>exact .fns val hf (hs.bh _ hL).1 ((hs.bh _ hL).2.trans hB) aR hv (fun i x hx=>ih i x hx (kj aR hx))
 | cE=>exact .cE
 | eW=>exact .eW
 | fQ=>exact .fQ
 | fj=>exact .fj
 | bt=>simp [C.clean] at hc
 | mp=>simp [C.clean] at hc
 | @gk i g v hv hg h=>
  refine .gk hv (iQ hg (hs.dQ _)) ?_;intro he;have:γ' (.b (.g i) 0)=γ (.b (.g i) 0):=uQ (he▸hg) (hs.dQ _);obtain ⟨B,h1,h2⟩:=h (he.trans this);exact ⟨B,(hs.view B _ 0 rfl this h1).1,h2⟩
 | dead=>exact .dead
theorem bD.rD {w':World} {L':aw} {γ γ':Key→Nat} (hs:Step w w' L L' γ γ') {k:Key} {x:V} {v:Value} (h:bD nm w L γ k x v)
  (hc:x.clean=true) (k':Key):bD nm w' L' γ' k' x v:=by
 induction h with
 | one h=>exact .one (h.rD hs hc _ _)
 | agg hl h=>exact .agg hl (fun j c u h1 h2=>(h j c u h1 h2).rD hs (kj hc h1) _ _)
 | aq hl aR h ih=>exact .aq hl aR (fun i x u h1 h2=>ih i x u h1 h2 (Ex aR h1))
def iT (nm:FuncId→Option Nat) (w0:World) (L0:aw) (γ0:Key→Nat) (w:World) (L:aw) (γ:Key→Nat) (m j:Nat) (c:C) (v:Value):Prop:=
 match c with
 | .view .. => aF nm w0 L0 γ0 (.h m) j c v
 | _=>aF nm w L γ (.h m) j c v
theorem iT.Al {γ0 γ:Key→Nat} (hs:Step w0 w L0 L γ0 γ) {k:Key} {m j j':Nat} {c:C} {v:Value} (h:aF nm w0 L0 γ0 k j' c v) (hc:c.own=false):iT nm w0 L0 γ0 w L γ m j c v:=by
 have aR:=h.u4 hc;have bA:aF nm w L γ (.h m) j c v:=h.rD hs aR _ _;have h0:aF nm w0 L0 γ0 (.h m) j c v:=h.any aR _ _;cases c with
 | view=>exact h0
 | _=>exact bA
structure oZ (w w':World) (L L':aw) (γ γ':Key→Nat) (K:Place→Prop):Prop where
 di:Step w w' L L' γ γ'
 h:∀B q o,q.k.aT=false→K q→L B=some (.row q o)→L' B=some (.row q o)∧w'.heap[B]? = w.heap[B]?
theorem iT.keep {γ0 γ γ':Key→Nat} {w':World} {L':aw} {m j:Nat} {c:C} {v:Value} {K:Place→Prop} (hk:oZ w w' L L' γ γ' K)
  (hK:∀p,K ⟨.h m,j,p⟩) (h:iT nm w0 L0 γ0 w L γ m j c v):iT nm w0 L0 γ0 w' L' γ' m j c v:=by
 have step:∀{c:C},aF nm w L γ (.h m) j c v→aF nm w' L' γ' (.h m) j c v:=by
  intro c hc;refine hc.step hk.di ?_;intro B q o h1 h2 hL;have:=hk.h B q o (by rw [h1];rfl) (by have:=hK q.p;rw [←h1,←h2] at this;exact this) hL;rwa [←h1,←h2,Place.l9]
 cases c with
 | view=>exact h
 | _=>exact step h
theorem aF.keep {γ γ':Key→Nat} {w':World} {L':aw} {m j:Nat} {c:C} {v:Value} {K:Place→Prop} (hk:oZ w w' L L' γ γ' K)
  (hK:∀p,K ⟨.h m,j,p⟩) (h:aF nm w L γ (.h m) j c v):aF nm w' L' γ' (.h m) j c v:=by
 refine h.step hk.di ?_;intro B q o h1 h2 hL;have:=hk.h B q o (by rw [h1];rfl) (by have:=hK q.p;rw [←h1,←h2] at this;exact this) hL;rwa [←h1,←h2,Place.l9]
def mM (nm:FuncId→Option Nat) (w0:World) (L0:aw) (γ0:Key→Nat) (w:World) (L:aw) (γ:Key→Nat) (m:Nat) (x:V) (v:Value):Prop:=
 match x with
 | .one c=>iT nm w0 L0 γ0 w L γ m 0 c v
 | .agg cs=>∃vs:Array Value,v = .agg vs∧cs.length=vs.size∧∀(j:Nat) c u,cs[j]? = some c→vs[j]? = some u→iT nm w0 L0 γ0 w L γ m j c u
 | .aq _=>bD nm w L γ (.h m) x v
theorem mM.keep {γ0 γ γ':Key→Nat} {w':World} {L':aw} {m:Nat} {x:V} {v:Value} {K:Place→Prop} (hk:oZ w w' L L' γ γ' K)
  (hK:∀j p,K ⟨.h m,j,p⟩) (h:mM nm w0 L0 γ0 w L γ m x v):mM nm w0 L0 γ0 w' L' γ' m x v:=by
 cases x with
 | one c=>exact iT.keep hk (hK 0) h
 | agg cs=>
  obtain ⟨vs,rfl,hl,hc⟩:=h;exact ⟨vs,rfl,hl,fun j c u h1 h2=>(hc j c u h1 h2).keep hk (hK j)⟩
 | aq vs=>
  refine bD.step hk.di ?_ h;intro B q o h1 hL;have:=hk.h B q o (by rw [h1];rfl) (by have:=hK q.j q.p;rw [←h1] at this;exact this) hL;rwa [←h1,Place.l9]
theorem L6 {x:V} {j:Nat} {c:C} (h:x.own=false) (hc:x.cells[j]? = some c):c.own=false:=by
 unfold V.own at h;rw [List.any_eq_false] at h;have:=h c (fm hc);simpa using this
theorem mM.Al {γ0 γ:Key→Nat} (hs:Step w0 w L0 L γ0 γ) {k:Key} {m:Nat} {x:V} {v:Value} (h:bD nm w0 L0 γ0 k x v) (hc:x.own=false):mM nm w0 L0 γ0 w L γ m x v:=by
 cases h with
 | one h=>exact iT.Al hs h (L6 (j:=0) hc rfl)
 | @agg cs vs hl h=>exact ⟨vs,rfl,hl,fun j c u h1 h2=>iT.Al hs (h j c u h1 h2) (L6 hc h1)⟩
 | aq hl aR h=>exact bD.rD hs (.aq hl aR h) (by simpa [V.clean] using aR) _
theorem C4 (k:Key) (g j:Nat) (c:C):(c.look k g j).own=false:=by
 cases c with
 | d x=>
  cases x with
  | sl t sz rows=>cases t<;>rfl
  | _=>rfl
 | _=>rfl
theorem aaP (k:Key) (g:Nat):∀(cs:List C) (j:Nat),(ur k g j cs).any C.own=false
 | [],_=>rfl
 | c::cs,j=>by simp [ur,C4,aaP k g cs (j+1)]
theorem V.C4 (k:Key) (g:Nat) (x:V):(x.look k g).own=false:=by
 cases x with
 | one c=>simp [V.look,V.own,V.cells,Go.ax.C4]
 | agg cs=>simp only [V.look,V.own,V.cells];exact aaP k g cs 0
 | aq vs=>rfl
def X.iK:X→Bool
 | .c v=>!v.own
 | _=>true
theorem Mm {S:St} {x:X} (hx:x.iK=true) {v:V} (hr:(rd x).run S=some v):v.own=false:=by
 cases x with
 | s i=>
  simp only [rd,Q.run_bind,Q.uD,Option.bind_some,Q.run_pure,aj] at hr;subst hr;exact V.C4 _ _ _
 | t i=>
  simp only [rd,Q.run_bind,Q.uD,Option.bind_some,Q.run_pure,aj] at hr;subst hr;exact V.C4 _ _ _
 | c v=>
  simp only [rd,Q.run_pure,aj] at hr;subst hr;simpa [X.iK] using hx
 | f n=>
  simp only [rd,Q.run_pure,aj] at hr;subst hr;rfl
structure Out (nm:FuncId→Option Nat) (N:Nat) (S0:St) (w0:World) (L0:aw) (ws eZ:List Wr) (a:Act) (w:World) (L L':aw) (K:Place→Prop) (m:Nat):Prop where
 mid:ch nm N S0 w0 L0 eZ a w L'
 di:Step w w L L' (S0.ah ws).γ (S0.ah eZ).γ
 Cz:∀B q o,q.k.aT=false→K q→L B=some (.row q o)→L' B=some (.row q o)
 xZ:∀B q o,q.k.aT=false→q.k≠.h m→L' B=some (.row q o)→L B=some (.row q o)
theorem Out.refl (M:ch nm N S0 w0 L0 ws a w L) (K:Place→Prop) (m:Nat):Out nm N S0 w0 L0 ws ws a w L L K m:=
 ⟨M,Step.same w L (fun _=>bT _),fun _ _ _ _ _ h=>h,fun _ _ _ _ _ h=>h⟩
theorem Out.trans {eZ aeD:List Wr} {L' D8:aw} {K:Place→Prop} {m:Nat} (h:Out nm N S0 w0 L0 ws eZ a w L L' K m) (k:Out nm N S0 w0 L0 eZ aeD a w L' D8 K m) :
  Out nm N S0 w0 L0 ws aeD a w L D8 K m:=
 ⟨k.mid,h.di.trans k.di,fun B q o h1 h2 h3=>k.Cz B q o h1 h2 (h.Cz B q o h1 h2 h3),fun B q o h1 h2 h3=>h.xZ B q o h1 h2 (k.xZ B q o h1 h2 h3)⟩
theorem Out.weaken {eZ:List Wr} {L':aw} {K K':Place→Prop} {m:Nat} (h:Out nm N S0 w0 L0 ws eZ a w L L' K m) (hK:∀q,K' q→K q):Out nm N S0 w0 L0 ws eZ a w L L' K' m:=
 ⟨h.mid,h.di,fun B q o h1 h2=>h.Cz B q o h1 (hK q h2),h.xZ⟩
theorem Out.keep {eZ:List Wr} {L':aw} {K:Place→Prop} {m:Nat} (h:Out nm N S0 w0 L0 ws eZ a w L L' K m):oZ w w L L' (S0.ah ws).γ (S0.ah eZ).γ K:=
 ⟨h.di,fun B q o h1 h2 h3=>⟨h.Cz B q o h1 h2 h3,rfl⟩⟩
theorem Out.free {eZ:List Wr} {L':aw} {K:Place→Prop} {m m':Nat} (h:Out nm N S0 w0 L0 ws eZ a w L L' K m) (hf:qK L m') (aB:m'≠m):qK L' m':=by
 intro B q o hL e;exact hf B q o (h.xZ B q o (by rw [e];rfl) (by rw [e];simpa using aB) hL) e
theorem wA (M:ch nm N S0 w0 L0 ws a w L) (R0:Rel nm N S0 a w0 L0) {m:Nat} (hm:qK L m) {x:X} {o:Operand} (hx:x.iK=true) (ho:bR nm x o) {r:V×List Wr}
  (hr:(tk ws x).run S0=some r) :
  ∃L',Out nm N S0 w0 L0 ws r.2 a w L L' (fun _=>True) m∧mM nm w0 L0 S0.γ w L' (S0.ah r.2).γ m r.1 (a.eval o):=by
 have reads:∀v,(rd x).run S0=some v→mM nm w0 L0 S0.γ w L (S0.ah ws).γ m v (a.eval o):=fun v hv=>
  mM.Al M.di (acr R0 ho hv (.h m)) (Mm hx hv)
 cases x with
 | t i=>
  cases ho with
  | t=>
  simp only [tk,Q.run_bind,Q.uD,Option.bind_some,Q.lB] at hr;cases hw:pZ ws (.s i) with
  | some v=>simp [hw] at hr
  | none=>
   simp only [hw,Option.isNone_none,bV,Option.bind_some,Q.run_ite,Q.run_pure] at hr;have hE:(S0.ah ws).E (.s i)=S0.E (.s i):=by rw [BN,hw];rfl
   by_cases kv:S0.E (.s i) |>.own
   ·have JE:(S0.get (.s i)).v.own=true:=kv;simp only [JE,bV,aj] at hr;subst hr;obtain ⟨L',h1,h2,h3,h4,h5,h6,h7⟩:=M.rel.take i m hm;rw [hE] at h2;have Zt:Step w w L L' (S0.ah ws).γ ((S0.ah ws).wr { k:=.s i,v:=V.dead }).γ:=by
     refine ⟨fun B hB=>⟨(h3 B).1 hB,rfl⟩,St.pV _ _,?_,fun _ _ _ _ _ _ _=>rfl,fun B r o _ hB=>(h6 B r o).1 hB⟩;intro B q o hq hγ hL;rw [D3] at hγ;have aB:=Em hγ;exact ⟨(h4 B q o aB (by intro e;rw [e] at hq;simp [Key.aT] at hq)).1 hL,fun cur e fz hB=>⟨cur,hB,rfl⟩⟩
    refine ⟨L',⟨⟨h1,M.di.trans Zt,?_,?_,M.heap,M.vM,fun B r o hB=>(h6 B r o).1 (M.boxes B r o hB)⟩,Zt,?_,?_⟩,?_⟩
    ·exact M.mono.trans ⟨rfl,rfl,rfl,bT _,fun B hB=>⟨(h3 B).1 hB,rfl⟩,fun B _ hB=>⟨(h5 B).2 hB,rfl⟩,fun B i o hB=>(h6 B _ o).1 hB⟩
    ·intro B q o hq hL;by_cases Zj:q.k = .s i
     ·exact absurd Zj (h7 B q o hL)
     ·exact M.rows B q o hq ((h4 B q o Zj (by intro e;rw [e] at hq;simp [Key.aT] at hq)).2 hL)
    ·intro B q o hq _ hL;by_cases xt:q.k = .h m
     ·exact absurd xt (hm B q o hL)
     ·exact (h4 B q o (by intro e;rw [e] at hq;simp [Key.aT] at hq) xt).1 hL
    ·intro B q o hq xt hL;exact (h4 B q o (by intro e;rw [e] at hq;simp [Key.aT] at hq) xt).2 hL
    ·have h0:=R0.slot i;show mM nm w0 L0 S0.γ w L' _ m (S0.E (.s i)) (a.tmps.getD i undef);generalize a.tmps.getD i undef=v0 at *;cases hv:S0.E (.s i) with
     | one c=>
      rw [hv] at h2 h0;cases h2 with
      | one h2=>
       cases h0 with
       | one h0=>
        cases c with
        | view=>exact h0.any rfl _ _
        | _=>exact h2
     | agg cs=>
      rw [hv] at h2 h0;cases h2 with
      | @agg _ vs hl h2=>
       refine ⟨vs,rfl,hl,?_⟩;intro j c u g1 g2;cases h0 with
       | agg nJ h0=>
        cases c with
        | view=>exact (h0 j _ u g1 g2).any rfl _ _
        | _=>exact h2 j _ u g1 g2
     | aq vs=>rw [hv] at h2;exact h2
   ·have ajK:(S0.E (.s i)).own=false:=by simpa using kv
    have JE:(S0.get (.s i)).v.own=false:=ajK;simp only [JE,rQ,dE,aj] at hr;subst hr;exact ⟨L,Out.refl M _ m,mM.Al M.di (R0.slot i) JE⟩
 | s i=>
  simp only [tk,Q.run_bind] at hr;cases hv:(rd (.s i)).run S0 with
  | none=>simp [hv] at hr
  | some v=>
   simp only [hv,Option.bind_some,Q.run_pure,aj] at hr;subst hr;exact ⟨L,Out.refl M _ m,reads v hv⟩
 | c cv=>
  simp only [tk,Q.run_bind] at hr;cases hv:(rd (.c cv)).run S0 with
  | none=>simp [hv] at hr
  | some v=>
   simp only [hv,Option.bind_some,Q.run_pure,aj] at hr;subst hr;exact ⟨L,Out.refl M _ m,reads v hv⟩
 | f n=>
  simp only [tk,Q.run_bind] at hr;cases hv:(rd (.f n)).run S0 with
  | none=>simp [hv] at hr
  | some v=>
   simp only [hv,Option.bind_some,Q.run_pure,aj] at hr;subst hr;exact ⟨L,Out.refl M _ m,reads v hv⟩
theorem HS {S:St}:∀{ws:List Wr} {k:Key},pZ ws k=none→(S.ah ws).γ k=S.γ k
 | [],_,_=>rfl
 | x::t,k,h=>by
  simp only [pZ] at h;by_cases hk:x.k=k
  ·simp [hk] at h
  ·simp only [hk,dE] at h;simp only [St.ah,St.jU,hk,dE];exact HS h
theorem I6 {S:St} {ws:List Wr} {k:Key} (h:fresh ws k=true):(S.ah ws).γ k=S.γ k∧(S.ah ws).γ (.a k)=S.γ (.a k)∧(S.ah ws).E k=S.E k:=by
 simp only [fresh,bK,U3] at h;exact ⟨HS h.1,HS h.2,by rw [BN,h.1];rfl⟩
theorem Rel.aqb {S:St} (h:Rel nm N S a w L) {L':aw} (fT:∀B,L B=some .bh→L' B=some .bh)
  (df:∀B q o,q.k.aT=true→(L B=some (.row q o)→L' B=some (.row q o)))
  (gZ:∀B r o,L' B=some (.box r o)↔L B=some (.box r o)) (hd:∀B l,L' B=some l→∃l0,L B=some l0) (oG:lZ L'):Rel nm N S a w L':=by
 have bA:Step w w L L' S.γ S.γ:=by
  refine ⟨fun B hB=>⟨fT B hB,rfl⟩,fun _=>bT _,?_,fun _ _ _ _ _ _ _=>rfl,fun B r o _ hB=>(gZ B r o).2 hB⟩;intro B q o hq _ hB;exact ⟨df B q o hq hB,fun cur e fz hc=>⟨cur,hc,rfl⟩⟩
 refine ⟨h.size,h.defers,?_,?_,h.kf,h.bound,fun r hg hr=>let ⟨B,o,cur,e,fz,h1,h2,h3,h4⟩:=h.room r hg hr;⟨B,o,cur,e,fz,(gZ _ _ _).2 h1,h2,h3,h4⟩,?_,oG,?_⟩
 ·intro i;refine (h.slot i).step bA ?_;intro B q o hq hB;refine ⟨?_,rfl⟩;rw [←hq,Place.l9];exact df B q o (by rw [hq];rfl) hB
 ·intro r c x hx gj;exact (h.cell r c x hx gj).step bA (fun B q o hq hB=>⟨df B q o (by rw [hq];rfl) hB,rfl⟩) (fun B o hB=>⟨(gZ _ _ _).2 hB,fun cur e fz hc=>⟨cur,hc,rfl,rfl⟩⟩)
 ·intro B l hB;obtain ⟨l0,h0⟩:=hd B l hB;exact h.fq B l0 h0
 ·intro B B' r o o' h1 h2;exact h.fA B B' r o o' ((gZ _ _ _).1 h1) ((gZ _ _ _).1 h2)
theorem Place.A' (pl:Place):(⟨pl.k,pl.j,[]⟩:Place).app pl.p=pl:=by cases pl;simp [Place.app]
theorem ch.Bb (M:ch nm N S0 w0 L0 ws a w L) {pl:Place} (hk:pl.k.aT=true) {x:D} {sz:Nat} {rows:List (List D)}
  (hE:((S0.ah ws).E pl.k).cells[pl.j]? = some (.d x)) (hn:eu x pl.p=some (.sl .own sz rows)):∃u,br w L pl (.sl .own sz rows) u:=by
 obtain ⟨u,hu⟩:=M.rel.afr hk hE;obtain ⟨u',jv⟩:=hu.nav pl.p hn;rw [Place.A'] at jv;exact ⟨u',jv⟩
theorem aqi {t q:Place} (ht:t.k.aT=true) (hq:q.k.aT=false):¬ bE t q:=by
 intro h;rw [h.key.1,ht] at hq;cases hq
theorem Out.freeze (M:ch nm N S0 w0 L0 ws a w L) {pl:Place} (hk:pl.k.aT=true) {x:D} {sz:Nat} {rows:List (List D)}
  (hE:((S0.ah ws).E pl.k).cells[pl.j]? = some (.d x)) (hn:eu x pl.p=some (.sl .own sz rows)) (m:Nat) :
  Out nm N S0 w0 L0 ws (nj ws pl.k (((S0.ah ws).E pl.k).setCell pl.j (.d (eF x pl.p (.sl (.im false) sz (aW rows)))))) a w L (gY pl L) (fun _=>True) m:=by
 refine ⟨M.freeze hk hE hn,?_,fun B q o hq _ hL=>sk hL (aqi hk hq),fun B q o _ _ hL=>(BK hL).1⟩;show Step w w L _ (S0.ah ws).γ ((S0.ah ws).wr { k:=pl.k,v:=_ }).γ;rw [D3];refine ⟨fun B hB=>⟨pq hB,rfl⟩,NY _ _,?_,fun _ _ _ _ _ _ _=>rfl,fun B r o _ hB=>xc.2 hB⟩;intro B q o hq hγ hL;exact ⟨sk hL (fun hu=>Em hγ hu.key.1),fun cur e fz hB=>⟨cur,hB,rfl⟩⟩
theorem uG (M:ch nm N S0 w0 L0 ws a w L) {m j:Nat} {c:C} {v:Value} (hc:iT nm w0 L0 S0.γ w L (S0.ah ws).γ m j c v) {r:C×List Wr}
  (hr:(st ws c).run S0=some r) :
  ∃L',Out nm N S0 w0 L0 ws r.2 a w L L' (fun q=>¬ (q.k = .h m∧q.j=j)) m∧aF nm w L' (S0.ah r.2).γ (.h m) j r.1 v:=by
 have yw:∀c0:C,st ws c0=pure (c0,ws)→iT nm w0 L0 S0.γ w L (S0.ah ws).γ m j c0 v→(∀pl g sz off len,c0≠.view pl g sz off len)→(st ws c0).run S0=some r→
   ∃L',Out nm N S0 w0 L0 ws r.2 a w L L' (fun q=>¬ (q.k = .h m∧q.j=j)) m∧aF nm w L' (S0.ah r.2).γ (.h m) j r.1 v:=by
  intro c0 h0 h1 xr h2;rw [h0] at h2;simp only [Q.run_pure,aj] at h2;subst h2;refine ⟨L,Out.refl M _ m,?_⟩;cases c0 with
  | view pl g sz off len=>exact absurd rfl (xr pl g sz off len)
  | _=>exact h1
 cases c with
 | view pl g sz off len=>
  simp only [st,Q.run_bind] at hr;cases ho:(jw ws pl g sz).run S0 with
  | none=>simp [ho] at hr
  | some e=>
   obtain ⟨e,x,rows⟩:=e;obtain ⟨rfl,hg,hE,hn⟩:=ux ho;simp only [ho,Option.bind_some,Q.run_bind,Q.lB] at hr;by_cases hle:off+len≤rows.length
   ·simp only [bf hle,bV,Option.bind_some,Q.run_pure,aj] at hr;subst hr;cases hc with
    | view hv hh Qc hV=>
     obtain ⟨u,hu⟩:=M.Bb hh hE hn;refine ⟨gY pl L,(Out.freeze M hh hE hn m).weaken (fun _ _=>trivial),.d (.plain ?_)⟩;exact aqm M.vM (fun B o hL=>M.rows B pl o hh hL) hu (hV hg) hle
   ·simp [hle] at hr
 | c7 pl g aa sz rows=>
  simp only [st,Q.run_bind] at hr;cases ho:(jw ws pl g sz).run S0 with
  | none=>simp [ho] at hr
  | some e=>
   obtain ⟨e,x,dH⟩:=e;obtain ⟨rfl,hg,hE,hn⟩:=ux ho;simp only [ho,Option.bind_some,Q.run_bind,Q.uD,Q.lB] at hr;cases qd:((S0.get (.a pl.k)).g==aa&&fresh ws pl.k) with
   | false=>simp [qd] at hr
   | true=>
    simp only [qd,bV,Option.bind_some,Q.run_pure,aj] at hr;subst hr;simp only [bK,eV] at qd;obtain ⟨g1,g2,_⟩:=I6 (S:=S0) qd.2;cases hc with
    | c7 hv hh Qc ai8 hV=>
     have hA:=hV (by rw [g1];exact hg) (by rw [g2];exact qd.1.symm);have O1:=Out.freeze M hh hE hn m;generalize ui:nj ws pl.k (((S0.ah ws).E pl.k).setCell pl.j (.d (eF x pl.p (.sl (.im false) sz (aW dH)))))=fc at *;have zD:∀{q:Place},q.k.aT=true→¬ bE ⟨.h m,j,[]⟩ q:=by
      intro q hq hu;rw [hu.key.1] at hq;simp [Key.aT] at hq
     have Zs:Step w w (gY pl L) (gY ⟨.h m,j,[]⟩ (gY pl L)) (S0.ah fc).γ (S0.ah fc).γ:=by
      refine ⟨fun B hB=>⟨pq hB,rfl⟩,fun _=>bT _,?_,fun _ _ _ _ _ _ _=>rfl,fun B r o _ hB=>xc.2 hB⟩;intro B q o hq _ hL;exact ⟨sk hL (zD hq),fun cur e fz hB=>⟨cur,hB,rfl⟩⟩
     have M2:ch nm N S0 w0 L0 fc a w (gY ⟨.h m,j,[]⟩ (gY pl L)):=by
      refine ⟨O1.mid.rel.aqb (fun B hB=>pq hB) (fun B q o hq hL=>sk hL (zD hq)) (fun B r o=>xc) (fun B l hB=>Ye hB) (Yf O1.mid.rel.eM),O1.mid.di.trans Zs,O1.mid.mono.trans (Yg _),?_,O1.mid.heap,O1.mid.vM,fun B r o hB=>xc.2 (O1.mid.boxes B r o hB)⟩;intro B q o hq hL;exact O1.mid.rows B q o hq (BK hL).1
     refine ⟨_,⟨M2,O1.di.trans Zs,?_,?_⟩,?_⟩
     ·intro B q o hq hK hL;exact sk (O1.Cz B q o hq trivial hL) (fun hu=>hK hu.key)
     ·intro B q o hq xt hL;exact O1.xZ B q o hq xt (BK hL).1
     ·refine .d (.plain ?_);rcases hA with ⟨rfl,a0,rfl⟩ | ⟨B,o,cap,cur,e,fz,n0,val,rfl,aZ,hL,hB,cX,fM,dL,dG,cu,hd,dY⟩
      ·simp only [aW];exact .mB
      ·have fT:gY ⟨.h m,j,[]⟩ (gY pl L) B=some .bh:=by
        rcases hL with hL | hL
        ·exact pq (xd hL (bE.refl _))
        ·by_cases hu:bE pl ⟨.h m,j,[]⟩
         ·exact pq (xd hL hu)
         ·exact xd (sk hL hu) (bE.refl _)
       rw [←Ao rows];cases vG:rows with
       | nil=>simp only [aW,jD];exact .mB
       | cons r0 t0=>
        rw [←vG];refine .pl (cur:=cur) (e:=e) (fz:=fz) val (by rw [vG];simp [aW]) aZ (by rw [Ao];exact dL) fT hB ?_ ?_ ?_
        ·intro r eU;rw [Dl] at eU;obtain ⟨r1,h1,rfl⟩:=iz.1 eU;simpa using fM r1 h1
        ·intro i c x hx;rw [Bl] at hx;cases hy:cellOf rows i c with
         | none=>simp [hy] at hx
         | some y=>exact cu i c y hy
        ·intro i c x hx;rw [Bl] at hx;cases hy:cellOf rows i c with
         | none=>simp [hy] at hx
         | some y=>
          simp only [hy,fe,aj] at hx;subst hx;refine br.freeze (fun q=>bE pl q∨bE ⟨.h m,j,[]⟩ q) (fun q i c h=>Or.imp (fun h=>h.sub i c) (fun h=>h.sub i c) h) (fun B hB=>⟨pq (pq hB),rfl⟩) ?_ (hd i c y hy) ?_
          ·intro B q o hq hL;refine ⟨?_,rfl⟩;by_cases vF:bE pl q
           ·exact pq (xd hL vF)
           ·exact xd (sk hL vF) (hq.resolve_left vF)
          ·split
           ·exact .inl ((bE.refl pl).sub i c)
           ·exact .inr ((bE.refl _).sub i c)
 | eD=>simp [st] at hr
 | bt=>simp [st] at hr
 | mp=>simp [st] at hr
 | gk=>simp [st] at hr
 | dead=>simp [st] at hr
 | d x=>exact yw _ rfl hc (by simp) hr
 | ptr r g c=>exact yw _ rfl hc (by simp) hr
 | pp cells=>exact yw _ rfl hc (by simp) hr
 | fn f b d=>exact yw _ rfl hc (by simp) hr
 | cE=>exact yw _ rfl hc (by simp) hr
 | eW=>exact yw _ rfl hc (by simp) hr
 | fQ=>exact yw _ rfl hc (by simp) hr
 | fj=>exact yw _ rfl hc (by simp) hr
end
end
section
section
variable {nm:FuncId→Option Nat} {N:Nat} {S0:St} {w0:World} {L0:aw} {ws:List Wr} {a:Act} {w:World} {L:aw}
theorem iT.rep {γ0 γ:Key→Nat} (hs:Step w0 w L0 L γ0 γ) {m j:Nat} {c:C} {v:Value} (h:iT nm w0 L0 γ0 w L γ m j c v):aF nm w L γ (.h m) j c v:=by
 cases c with
 | view=>exact aF.rD hs h rfl _ _
 | _=>exact h
theorem mM.rep {γ0 γ:Key→Nat} (hs:Step w0 w L0 L γ0 γ) {m:Nat} {x:V} {v:Value} (h:mM nm w0 L0 γ0 w L γ m x v):bD nm w L γ (.h m) x v:=by
 cases x with
 | one c=>exact .one (iT.rep hs h)
 | agg cs=>
  obtain ⟨vs,rfl,hl,hc⟩:=h;exact .agg hl fun j c u h1 h2=>(hc j c u h1 h2).rep hs
 | aq vs=>exact h
theorem MF {m:Nat}:∀(cs:List C) {ws:List Wr} {L:aw} (M:ch nm N S0 w0 L0 ws a w L) (j0:Nat) (vs:Nat→Value)
  (hc:∀j c,cs[j]? = some c→iT nm w0 L0 S0.γ w L (S0.ah ws).γ m (j0+j) c (vs (j0+j))) {r:List C×List Wr} (hr:(lD ws cs).run S0=some r),
  ∃L',Out nm N S0 w0 L0 ws r.2 a w L L' (fun q=>¬ (q.k = .h m∧j0≤q.j)) m∧r.1.length=cs.length∧
   ∀j c,r.1[j]? = some c→aF nm w L' (S0.ah r.2).γ (.h m) (j0+j) c (vs (j0+j))
 | [],ws,L,M,j0,vs,hc,r,hr=>by
  simp only [lD,Q.run_pure,aj] at hr;subst hr;exact ⟨L,Out.refl M _ m,rfl,fun j c h=>by simp at h⟩
 | c::cs,ws,L,M,j0,vs,hc,r,hr=>by
  simp only [lD,Q.run_bind] at hr;cases h1:(st ws c).run S0 with
  | none=>simp [h1] at hr
  | some r1=>
   obtain ⟨c1,fc⟩:=r1;simp only [h1,Option.bind_some,Q.run_bind] at hr;cases h2:(lD fc cs).run S0 with
   | none=>simp [h2] at hr
   | some r2=>
    obtain ⟨Br,fx⟩:=r2;simp only [h2,Option.bind_some,Q.run_pure,aj] at hr;subst hr;obtain ⟨L1,O1,R1⟩:=uG M (by simpa using hc 0 c rfl) h1
    obtain ⟨L2, O2, hl, R2⟩ := MF cs O1.mid (j0 + 1) vs (fun j c h => by
      have := hc (j + 1) c (by simpa using h)
      have := this.keep O1.keep (fun p => by simp)
      rwa [show j0 + 1 + j = j0 + (j + 1) by omega]) h2
    refine ⟨L2,(O1.weaken ?_).trans (O2.weaken ?_),by simp [hl],?_⟩
    ·intro q hq h;exact hq ⟨h.1,by omega⟩
    ·intro q hq h;exact hq ⟨h.1,by omega⟩
    ·intro j c hj;cases j with
     | zero=>
      simp only [kD,aj] at hj;subst hj;exact R1.keep O2.keep (fun p=>by simp)
     | succ j=>
      have:=R2 j c (by simpa using hj);rwa [show j0+1+j=j0+(j+1) by omega] at this
structure oe (nm:FuncId→Option Nat) (N:Nat) (S:St) (w0:World) (L0:aw) (a:Act) (w:World) (L:aw):Prop where
 rel:Rel nm N S a w L
 mono:de w0 w L0 L
 xR:eI L
theorem ch.done (M:ch nm N S0 w0 L0 ws a w L) {m d:Nat} {x:V} {v:Value} (hd:d < N) (hv:bD nm w L (S0.ah ws).γ (.h m) x v) :
  ∃L',oe nm N (S0.ah ({ k:=.s d,v:=x } :: ws)) w0 L0 (a.put (some d) v) w L':=by
 obtain ⟨L',h1,h2,h3,_⟩:=M.rel.adn hd hv;exact ⟨L',h1,M.mono.trans h3,h2⟩
end
end
section
section
variable {nm:FuncId→Option Nat} {N:Nat} {S0:St} {w0:World} {L0:aw} {ws:List Wr} {a:Act} {w:World} {L:aw}
theorem Out.an4 (M:ch nm N S0 w0 L0 ws a w L) {eZ:List Wr} {L':aw} {K:Place→Prop} {m:Nat}
  (ql:Rel nm N (S0.ah eZ) a w L') (qW:∀k,(S0.ah ws).γ k≤(S0.ah eZ).γ k)
  (fT:∀B,L B=some .bh→L' B=some .bh) (vC:∀B,L B=none→L' B=none)
  (gZ:∀B r o,L B=some (.box r o)→L' B=some (.box r o))
  (cr:∀B q o,q.k.aT=true→(S0.ah eZ).γ q.k=(S0.ah ws).γ q.k→L B=some (.row q o)→L' B=some (.row q o))
  (vp:∀B q o,q.k.aT=true→L' B=some (.row q o)→L B=some (.row q o))
  (hK:∀B q o,q.k.aT=false→K q→L B=some (.row q o)→L' B=some (.row q o))
  (hm:∀B q o,q.k.aT=false→q.k≠.h m→L' B=some (.row q o)→L B=some (.row q o)) :
  Out nm N S0 w0 L0 ws eZ a w L L' K m:=by
 have bA:Step w w L L' (S0.ah ws).γ (S0.ah eZ).γ:=
  ⟨fun B hB=>⟨fT B hB,rfl⟩,qW,fun B q o hq hγ hL=>⟨cr B q o hq hγ hL,fun cur e fz hB=>⟨cur,hB,rfl⟩⟩,fun _ _ _ _ _ _ _=>rfl,fun B r o _ hB=>gZ B r o hB⟩
 refine ⟨⟨ql,M.di.trans bA,M.mono.trans ⟨rfl,rfl,rfl,bT _,fun B hB=>⟨fT B hB,rfl⟩,fun B _ hB=>⟨vC B hB,rfl⟩,fun B i o hB=>gZ B _ o hB⟩,?_,M.heap,M.vM,fun B r o hB=>gZ B r o (M.boxes B r o hB)⟩,bA,hK,hm⟩;intro B q o hq hL;exact M.rows B q o hq (vp B q o hq hL)
theorem Mq {f:Place→Option Place} {B:Nat} (h:L B=none):cI f L B=none:=by simp [cI,h]
theorem aj7 {k:Key} (hk:k.aT=true):(∃i,k = .s i)∨∃r c,k = .b r c:=by
 cases k with
 | s i=>exact .inl ⟨i,rfl⟩
 | b r c=>exact .inr ⟨r,c,rfl⟩
 | _=>simp [Key.aT] at hk
def Place.rest (pl q:Place):List (Nat×Nat):=q.p.drop pl.p.length
theorem Place.Mt (pl:Place) (r:List (Nat×Nat)):pl.rest (pl.app r)=r:=by simp [Place.rest,Place.app]
open Classical in
noncomputable def jg (pl:Place) (m j:Nat) (jO:List (Nat×Nat)→Bool):Place→Option Place:=fun q=>
 if bE pl q then (if jO (pl.rest q)=true then some ⟨.h m,j,pl.rest q⟩ else none)
 else if q.k = .h m∧q.j=j then (if jO q.p=true then none else some q) else some q
theorem bE.eq {pl q:Place} (h:bE pl q):q=pl.app (pl.rest q):=by
 obtain ⟨r,rfl⟩:=h;rw [Place.Mt]
theorem Ew {pl:Place} {m j:Nat} {jO:List (Nat×Nat)→Bool} {q:Place} (h1:¬ bE pl q) (h2:¬ (q.k = .h m∧q.j=j)):jg pl m j jO q=some q:=by
 unfold jg;rw [az h1,az h2]
theorem Iw {pl:Place} {m j:Nat} {jO:List (Nat×Nat)→Bool} {q:Place} (h1:bE pl q) (h2:jO (pl.rest q)=true):jg pl m j jO q=some ⟨.h m,j,pl.rest q⟩:=by
 unfold jg;rw [aJ h1,aJ h2]
theorem WS {pl:Place} {m j:Nat} {jO:List (Nat×Nat)→Bool} {q:Place} (h1:¬ bE pl q) (h2:q.k = .h m∧q.j=j) (h3:jO q.p=false):jg pl m j jO q=some q:=by
 unfold jg;rw [az h1,aJ h2,az (by simp [h3])]
theorem Ot {pl:Place} {m j:Nat} {jO:List (Nat×Nat)→Bool} {q t:Place} (h:jg pl m j jO q=some t) :
  (bE pl q∧jO (pl.rest q)=true∧t=⟨.h m,j,pl.rest q⟩)∨(¬ bE pl q∧(q.k = .h m∧q.j=j)∧jO q.p=false∧t=q)∨(¬ bE pl q∧¬ (q.k = .h m∧q.j=j)∧t=q):=by
 unfold jg at h;by_cases hu:bE pl q
 ·rw [aJ hu] at h;by_cases hs:jO (pl.rest q)=true
  ·rw [aJ hs] at h;exact .inl ⟨hu,hs,by simpa using h.symm⟩
  ·rw [az hs] at h;cases h
 ·rw [az hu] at h;by_cases hm:q.k = .h m∧q.j=j
  ·rw [aJ hm] at h;by_cases hs:jO q.p=true
   ·rw [aJ hs] at h;cases h
   ·rw [az hs] at h;exact .inr (.inl ⟨hu,hm,by simpa using hs,by simpa using h.symm⟩)
  ·rw [az hm] at h;exact .inr (.inr ⟨hu,hm,by simpa using h.symm⟩)
theorem afs (pl:Place) (m j:Nat) (jO:List (Nat×Nat)→Bool) {q q' t:Place} (h1:jg pl m j jO q=some t) (h2:jg pl m j jO q'=some t):q=q':=by
 rcases Ot h1 with ⟨a1,a2,a3⟩ | ⟨a1,a2,a3,a4⟩ | ⟨a1,a2,a3⟩<;>rcases Ot h2 with ⟨b1,b2,b3⟩ | ⟨b1,b2,b3,b4⟩ | ⟨b1,b2,b3⟩
 ·rw [a3] at b3;simp only [Place.mk.injEq,lk] at b3;rw [a1.eq,b1.eq,b3]
 ·rw [←b4,a3] at b3;simp only at b3;rw [a2] at b3;cases b3
 ·exact absurd (by rw [←b3,a3];exact ⟨rfl,rfl⟩) b2
 ·rw [←a4,b3] at a3;simp only at a3;rw [b2] at a3;cases a3
 ·rw [←a4,←b4]
 ·exact absurd (by rw [←b3,a4];exact a2) b2
 ·exact absurd (by rw [←a3,b3];exact ⟨rfl,rfl⟩) a2
 ·exact absurd (by rw [←a3,b4];exact b2) a2
 ·rw [←a3,←b3]
theorem WQ {pl:Place} {m j:Nat} {jO:List (Nat×Nat)→Bool} {q t:Place} (h1:jg pl m j jO q=some t) (h2:¬ (t.k = .h m∧t.j=j)):q=t∧¬ bE pl q:=by
 rcases Ot h1 with ⟨a1,a2,a3⟩ | ⟨a1,a2,a3,a4⟩ | ⟨a1,a2,a3⟩
 ·exact absurd (by rw [a3];exact ⟨rfl,rfl⟩) h2
 ·exact absurd (by rw [a4];exact a2) h2
 ·exact ⟨a3.symm,a1⟩
theorem ch.EX (M:ch nm N S0 w0 L0 ws a w L) {m j:Nat} {pl:Place} (hk:pl.k.aT=true) {sz:Nat} {rows:List (List D)} {x:D} (b:List (Nat×Nat)→Bool)
  (hE:((S0.ah ws).E pl.k).cells[pl.j]? = some (.d x)) (hn:eu x pl.p=some (.sl .own sz rows)) :
  Out nm N S0 w0 L0 ws (nj ws pl.k (sN ((S0.ah ws).E pl.k) pl x)) a w L (cI (jg pl m j b) L) (fun q=>¬ (q.k = .h m∧q.j=j)) m:=by
 have arl:pl.k≠.h m:=fun e=>by rw [e] at hk;simp [Key.aT] at hk
 have oG:lZ (cI (jg pl m j b) L):=G6 M.rel.eM (fun q q' t B B' o o' h1 h2 _ _=>afs pl m j b h1 h2);have Fx:∀{q:Place},q.k.aT=true→¬ (q.k = .h m∧q.j=j):=fun hq h=>by rw [h.1] at hq;simp [Key.aT] at hq
 have ql:Rel nm N ((S0.ah ws).wr { k:=pl.k,v:=sN ((S0.ah ws).E pl.k) pl x }) a w (cI (jg pl m j b) L):=by
  refine M.rel.ac3 (aj7 hk) hE (by simp) (fun B hB=>jN.2 hB) ?_ ?_ (fun B r o=>jz) (fun B l hB=>G5 hB) oG ?_
  ·intro B q o hq FD hL;exact gL hL (Ew (fun h=>hq h.key.1) (Fx FD))
  ·intro B q o hq FC hL;exact gL hL (Ew (fun h=>FC h.key.2) (Fx (by rw [hq];exact hk)))
  ·intro u hu;cases hu with
   | d hd=>
    refine .d ?_;have BX:(⟨pl.k,pl.j,[]⟩:Place).app pl.p=pl:=Place.A' pl;refine br.subst pl.p hd hn (fun B hB=>⟨jN.2 hB,rfl⟩) ?_ ?_ rfl
    ·intro B' q o' h1 h2 h3;rw [BX] at h2;exact gL h3 (Ew h2 (Fx (by rw [h1.key.1];exact hk)))
    ·intro u' jv;exact .plain (.dead jv.vZ)
 refine Out.an4 M ql (fun k=>St.pV _ _ k) (fun B hB=>jN.2 hB) (fun B hB=>Mq hB) (fun B r o hB=>jz.2 hB) ?_ ?_ ?_ ?_
 ·intro B q o hq hγ hL;have:q.k≠pl.k:=by
   intro e;rw [e] at hγ;simp only [nj,St.ah,D3,bump,bV] at hγ;omega
  exact gL hL (Ew (fun h=>this h.key.1) (Fx hq))
 ·intro B q o hq hL;obtain ⟨q0,h1,h2⟩:=oR hL;have:=(WQ h2 (Fx hq)).1;rwa [this] at h1
 ·intro B q o hq hK hL;refine gL hL (Ew (fun h=>?_) hK);rw [h.key.1,hk] at hq;cases hq
 ·intro B q o hq xt hL;obtain ⟨q0,h1,h2⟩:=oR hL;have:=(WQ h2 (fun h=>xt h.1)).1;rwa [this] at h1
theorem bE.S8 {pl q:Place} (h:bE pl q) (i c:Nat):pl.rest (q.sub i c)=pl.rest q++[(i,c)]:=by
 obtain ⟨r,rfl⟩:=h;rw [←Place.Eg,Place.Mt,Place.Mt]
theorem Ax (pl:Place):pl.rest pl=[]:=by have:=Place.Mt pl [];rwa [Place.A9] at this
theorem acB (pl:Place) (i c:Nat):pl.rest (pl.sub i c)=[(i,c)]:=by rw [(bE.refl pl).S8,Ax];rfl
def ky (b:Bool) (n0:Nat):List (Nat×Nat)→Bool
 | []=>b
 | (i,_)::_=>decide (i < n0)
theorem aa7 {pl:Place} {m j:Nat} {b:Bool} {n0 i c:Nat} {x:D} {u:Value} (hi:i < n0) (h:br w L (pl.sub i c) x u) :
  br w (cI (jg pl m j (ky b n0)) L) ((⟨.h m,j,[]⟩:Place).sub i c) x u:=by
 have:=br.move (w':=w) (L':=cI (jg pl m j (ky b n0)) L) (fun q=>⟨.h m,j,pl.rest q⟩) (fun q=>bE pl q∧∃r,pl.rest q=(i,c)::r)
  (fun q i' c' h=>⟨h.1.sub i' c',by obtain ⟨r,hr⟩:=h.2;rw [h.1.S8,hr];exact ⟨_,rfl⟩⟩)
  (fun q i c h=>by rw [h.1.S8];rfl) (fun B hB=>⟨jN.2 hB,rfl⟩)
  (fun B q o hq hL=>⟨gL hL (Iw hq.1 (by obtain ⟨r,hr⟩:=hq.2;rw [hr];simp [ky,hi])),rfl⟩) h ⟨(bE.refl pl).sub i c,[],acB pl i c⟩
 rwa [acB] at this
theorem apM {pl:Place} (hp:pl.k.aT=true) {m j:Nat} {b:Bool} {n0 i c:Nat} {x:D} {u:Value} (hi:¬ i < n0) (h:br w L ((⟨.h m,j,[]⟩:Place).sub i c) x u) :
  br w (cI (jg pl m j (ky b n0)) L) ((⟨.h m,j,[]⟩:Place).sub i c) x u:=by
 refine br.move (w':=w) (L':=cI (jg pl m j (ky b n0)) L) id (fun q=>(q.k = .h m∧q.j=j)∧∃r,q.p=(i,c)::r)
  (fun q i' c' h=>⟨h.1,by obtain ⟨r,hr⟩:=h.2;exact ⟨r++[(i',c')],by simp [Place.sub,hr]⟩⟩)
  (fun _ _ _ _=>rfl) (fun B hB=>⟨jN.2 hB,rfl⟩)
  (fun B q o hq hL=>⟨gL hL (WS (fun hu=>?_) hq.1 (by obtain ⟨r,hr⟩:=hq.2;rw [hr];simp [ky,hi])),rfl⟩) h ⟨⟨rfl,rfl⟩,[],rfl⟩
 rw [←hu.key.1,hq.1.1] at hp;simp [Key.aT] at hp
theorem ch.anR (M:ch nm N S0 w0 L0 ws a w L) {m j:Nat} {pl:Place} (hk:pl.k.aT=true) {sz:Nat} {rows:List (List D)} {v:Value} {x:D}
  (hE:((S0.ah ws).E pl.k).cells[pl.j]? = some (.d x)) (hn:eu x pl.p=some (.sl .own sz rows)) (hV:A4 w0 L0 pl sz 0 rows.length v)
  (hr:rows≠[]) :
  ∃L',Out nm N S0 w0 L0 ws (nj ws pl.k (sN ((S0.ah ws).E pl.k) pl x)) a w L L' (fun q=>¬ (q.k = .h m∧q.j=j)) m∧
   aF nm w L' (S0.ah (nj ws pl.k (sN ((S0.ah ws).E pl.k) pl x))).γ (.h m) j (.d (.sl .own sz rows)) v:=by
 refine ⟨_,M.EX hk (ky true rows.length) hE hn,.d ?_⟩;obtain ⟨u,hu⟩:=M.Bb hk hE hn;rcases hV with ⟨h0,a0,rfl⟩ | ⟨B,o,cap,cur,e,fz,rfl,aZ,p5,hB0,cX,hle,dG,_⟩
 ·exact absurd (pS.1 h0) hr
 ·have hL:L B=some (.row pl o):=by
   rcases hu.nS with ⟨h1,_⟩ | ⟨B',o',yW,dR,e',tT,val,_,_,ff,_⟩
   ·exact absurd h1 hr
   ·have Yw:=M.rows B' pl o' hk ff;obtain rfl:=M.vM B' B pl o' o Yw p5;obtain rfl:o'=o:=by rw [Yw] at p5;simpa using p5
    exact ff
  have hB:w.heap[B]? = some (.cells cur e fz):=(M.heap B _ p5).trans hB0;simp only [U2,gW] at dG ⊢;have oA:cI (jg pl m j (ky true rows.length)) L B=some (.row ⟨.h m,j,[]⟩ o):=by
   have:=gL hL (Iw (m:=m) (j:=j) (jO:=ky true rows.length) (bE.refl pl) (by rw [Ax];rfl));rwa [Ax] at this
  rcases hu.nS with ⟨rfl,_⟩ | ⟨B',o',yW,dR,e',tT,val,_,_,ff,dA,_,fM,PV,QH,cu,hr,dY⟩
  ·exact absurd rfl hr
  ·obtain rfl:=M.rel.eM B' B pl o' o ff hL;obtain rfl:o'=o:=by rw [ff] at hL;simpa using hL
   obtain ⟨rfl,rfl,rfl⟩:dR=cur∧e'=e∧tT=fz:=by rw [dA] at hB;simpa using hB
   refine .own val aZ oA hB cX fM hle dG cu ?_ dY;intro i c x hx;exact aa7 (oj fM hx).1 (hr i c x hx)
theorem Ts (M:ch nm N S0 w0 L0 ws a w L) {m j:Nat} {pl:Place} {g aa sz:Nat} {rows:List (List D)} {v:Value}
  (hc:iT nm w0 L0 S0.γ w L (S0.ah ws).γ m j (.c7 pl g aa sz rows) v) {r:C×List Wr}
  (hr:(settle ws pl g aa sz rows).run S0=some r) :
  ∃L',Out nm N S0 w0 L0 ws r.2 a w L L' (fun q=>¬ (q.k = .h m∧q.j=j)) m∧aF nm w L' (S0.ah r.2).γ (.h m) j r.1 v:=by
 simp only [settle,Q.run_bind] at hr;cases ho:(jw ws pl g sz).run S0 with
 | none=>simp [ho] at hr
 | some e=>
  obtain ⟨e,x,dH⟩:=e;obtain ⟨rfl,hg,hE,hn⟩:=ux ho;simp only [ho,Option.bind_some,Q.run_bind,Q.uD,Q.lB] at hr;cases qd:((S0.get (.a pl.k)).g==aa&&fresh ws pl.k) with
  | false=>simp [qd] at hr
  | true=>
   simp only [qd,bV,Option.bind_some,Q.run_pure,aj] at hr;subst hr;simp only [bK,eV] at qd;obtain ⟨g1,g2,_⟩:=I6 (S:=S0) qd.2;cases hc with
   | c7 hv hh Qc ai8 hV=>
    have hA:=hV (by rw [g1];exact hg) (by rw [g2];exact qd.1.symm);rcases hA with ⟨rfl,a0,rfl⟩ | ⟨B,o,cap,cur,e,fz,n0,val,rfl,aZ,hL,hB,cX,fM,dL,dG,cu,hd,dY⟩
    ·exact ⟨_,M.EX hh (ky true 0) hE hn,.d .jm⟩
    ·have kQ:∀(b:Bool) i c x,cellOf rows i c=some x→br w (cI (jg pl m j (ky b n0)) L) ((⟨.h m,j,[]⟩:Place).sub i c) x (val i c):=by
      intro b i c x hx;have h0:=hd i c x hx;by_cases hi:i < n0
      ·rw [aJ hi] at h0;exact aa7 hi h0
      ·rw [az hi] at h0;exact apM hh hi h0
     rcases hL with hL | hL
     ·have oA:cI (jg pl m j (ky true n0)) L B=some (.row ⟨.h m,j,[]⟩ o):=by
       have:=gL hL (Iw (m:=m) (j:=j) (jO:=ky true n0) (bE.refl pl) (by rw [Ax];rfl));rwa [Ax] at this
      exact ⟨_,M.EX hh (ky true n0) hE hn,.d (.own val aZ oA hB cX fM dL dG cu (kQ true) dY)⟩
     ·have oA:cI (jg pl m j (ky false n0)) L B=some (.row ⟨.h m,j,[]⟩ o):=by
       refine gL hL (WS (fun hu=>?_) ⟨rfl,rfl⟩ rfl);have:=hu.key.1;simp only at this;rw [←this] at hh;simp [Key.aT] at hh
      exact ⟨_,M.EX hh (ky false n0) hE hn,.d (.own val aZ oA hB cX fM dL dG cu (kQ false) dY)⟩
theorem TE (M:ch nm N S0 w0 L0 ws a w L) {m j:Nat} {P:Place} {c:C} {v:Value} (hc:iT nm w0 L0 S0.γ w L (S0.ah ws).γ m j c v) {r:C×List Wr}
  (hr:(oU ws P c).run S0=some r) :
  ∃L',Out nm N S0 w0 L0 ws r.2 a w L L' (fun q=>¬ (q.k = .h m∧q.j=j)) m∧aF nm w L' (S0.ah r.2).γ (.h m) j r.1 v:=by
 cases c with
 | c7 pl g aa sz rows=>
  simp only [oU] at hr;split at hr
  ·exact Ts M hc hr
  ·exact uG M hc hr
 | _=>exact uG M hc hr
theorem TH (M:ch nm N S0 w0 L0 ws a w L) {m j:Nat} {P:Place} {c:C} {v:Value} (hc:iT nm w0 L0 S0.γ w L (S0.ah ws).γ m j c v) {r:C×List Wr}
  (hr:(ta ws P c).run S0=some r) :
  ∃L',Out nm N S0 w0 L0 ws r.2 a w L L' (fun q=>¬ (q.k = .h m∧q.j=j)) m∧aF nm w L' (S0.ah r.2).γ (.h m) j r.1 v:=by
 cases c with
 | c7 pl g aa sz rows=>
  simp only [ta] at hr;split at hr
  ·exact Ts M hc hr
  ·exact TE M hc hr
 | view pl g sz off len=>
  simp only [ta,Q.run_bind] at hr;cases ho:(jw ws pl g sz).run S0 with
  | none=>simp [ho] at hr
  | some e=>
   obtain ⟨e,x,rows⟩:=e;obtain ⟨rfl,hg,hE,hn⟩:=ux ho;simp only [ho,Option.bind_some,Q.run_ite,Q.MC] at hr;split at hr
   ·rename_i iF;simp only [bK,eV,wN] at iF;obtain ⟨_,⟨h1,h2⟩,h3⟩:=iF;simp only [Q.run_pure,aj] at hr;subst hr;cases hc with
    | view hv hh Qc hV=>
     refine M.anR hh hE hn (by have:=hV hg;rwa [h1,h2] at this) ?_;intro he;simp [he] at h3
   ·exact uG M hc hr
 | _=>exact uG M hc hr
end
end
end Go.ax
