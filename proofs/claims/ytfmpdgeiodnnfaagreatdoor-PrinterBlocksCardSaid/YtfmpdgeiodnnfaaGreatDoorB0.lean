/- A part of the proof. -/
import GoSem.Core.Code
import GoSem.Core.Machine
import Derived.Calls
import Derived.Laws.Sem
import Derived.Laws.World
set_option linter.all false
section
namespace Go
abbrev ai:=@Option.some.injEq
abbrev cw:=@List.getElem?_eq_some_iff
abbrev aY:=@decide_eq_true
abbrev bS:=@List.getElem?_map
abbrev bK:=@Bool.and_eq_true
abbrev bM:=@List.getElem_mem
abbrev bV:=@decide_eq_false
abbrev cy:=@List.length_map
abbrev ff:=@Option.bind_eq_some_iff
abbrev eu:=@List.length_append
abbrev ek:=@List.append_assoc
abbrev ft:=@List.mem_of_getElem?
abbrev iw:=@Array.getD_eq_getD_getElem?
abbrev dC:=@List.mem_append
abbrev bT:=@Nat.le_refl
abbrev aB:=@if_neg
abbrev eB:=@List.map_append
abbrev db:=@Nat.zero_add
abbrev fA:=@decide_eq_true_eq
abbrev fh:=@Option.map_some
abbrev aJ:=@if_pos
abbrev kB:=@List.getD_eq_getElem?_getD
abbrev kf:=@List.getElem?_eq_getElem
abbrev gk:=@List.length_cons
abbrev lH:=@Array.getElem?_eq_some_iff
abbrev kC:=@List.getElem?_cons_zero
abbrev fL:=@Prod.mk.injEq
abbrev nC:=@List.getElem?_append_right
abbrev kD:=@List.mem_cons_of_mem
abbrev nB:=@List.getElem?_append_left
abbrev jR:=@List.mem_cons_self
abbrev gl:=@List.map_cons
abbrev og:=@Array.getElem?_eq_getElem
abbrev mM:=@Nat.eq_of_beq_eq_true
abbrev eU:=@beq_iff_eq
abbrev lg:=@of_decide_eq_false
abbrev bW:=@if_true
abbrev gT:=@List.mem_cons
abbrev jB:=@List.length_nil
abbrev dE:=@if_false
abbrev pW:=@List.length_eq_zero_iff
abbrev nE:=@beq_eq_false_iff_ne
abbrev iz:=@List.mem_map
abbrev lI:=@List.all_eq_true
abbrev jd:=@Nat.le_trans
abbrev pV:=@List.getElem?_eq_none
abbrev nA:=@Bool.not_eq_true'
abbrev pY:=@Nat.mul_le_mul_right
abbrev tA:=@List.drop_eq_getElem_cons
abbrev jC:=@Nat.add_zero
abbrev tE:=@Nat.exists_eq_add_of_le'
abbrev nD:=@List.not_mem_nil
abbrev qL:=@List.getElem?_set_ne
abbrev mJ:=@List.append_nil
abbrev wK:=@Array.getElem?_setIfInBounds
abbrev yw:=@Array.getElem?_setIfInBounds_ne
abbrev mL:=@List.mapM_cons
abbrev fX:=@congrArg
abbrev oY:=@Option.some.inj
abbrev rU:=@Bool.false_eq_true
abbrev qJ:=@List.cons_append
abbrev uJ:=@List.getElem?_of_mem
abbrev lJ:=@Nat.add_mul
abbrev tC:=@List.getElem?_drop
abbrev yF:=@Option.isSome_iff_exists
abbrev yA:=@List.getElem?_take_of_lt
abbrev qK:=@List.cons.injEq
abbrev tF:=@of_decide_eq_true
abbrev yx:=@List.getElem?_cons_succ
abbrev AQ:=@Array.getElem?_append_left
abbrev uK:=@List.mem_singleton
abbrev yz:=@List.getElem?_set_self
abbrev pX:=@Nat.add_assoc
abbrev uM:=@List.take_add_one
abbrev tD:=@List.mem_range
abbrev uN:=@Nat.le_antisymm
abbrev uL:=@List.nil_append
abbrev AS:=@Array.getElem?_modify
abbrev lh:=@true_and
abbrev wL:=@Bool.or_eq_true
abbrev DP:=@List.drop_eq_nil_of_le
abbrev DO:=@Array.getElem?_toList
abbrev DT:=@List.mem_of_mem_take
abbrev DR:=@List.getLast?_append
abbrev yB:=@List.length_set
abbrev nF:=@or_false
abbrev DQ:=@List.getElem_of_mem
abbrev AX:=@List.take_length
abbrev AU:=@List.length_take
abbrev rR:=@Array.ext'
abbrev Hz:=@List.append_eq_nil_iff
abbrev uO:=@Nat.mul_one
abbrev HE:=@List.length_replicate
abbrev yC:=@List.sum_cons
abbrev M8:=@Int.tdiv_eq_ediv_of_nonneg
abbrev HF:=@List.mem_append_left
abbrev HA:=@List.count_le_length
abbrev AT:=@List.drop_zero
abbrev HC:=@List.getElem?_range
abbrev yD:=@Nat.lt_or_ge
abbrev HK:=@Nat.lt_of_lt_of_le
abbrev Hy:=@Array.getElem?_map
abbrev Nj:=@List.take_of_length_le
abbrev Nc:=@List.length_eq_one_iff
abbrev M7:=@Array.getElem?_eq_none
abbrev yE:=@Nat.zero_le
abbrev HG:=@List.nodup_append
abbrev HB:=@List.flatMap_cons
abbrev AW:=@List.map_set
abbrev AV:=@List.map_nil
abbrev HL:=@Nat.mod_eq_of_lt
abbrev Nh:=@List.pairwise_append
abbrev Nf:=@List.mem_of_mem_drop
abbrev UC:=@Array.getElem?_append_right
abbrev UJ:=@Int.tmod_eq_emod_of_nonneg
abbrev DW:=@Nat.sub_zero
abbrev DV:=@Nat.sub_self
abbrev Nl:=@Nat.pos_of_ne_zero
abbrev Nk:=@Nat.eq_zero_or_pos
abbrev Na:=@List.getElem?_take
abbrev M9:=@List.count_eq_zero
abbrev U6:=@Option.isNone_iff_eq_none
abbrev HJ:=@List.take_zero
abbrev UX:=@List.mem_or_eq_of_mem_set
abbrev UR:=@List.getElem?_eq_none_iff
abbrev UI:=@Classical.byContradiction
abbrev Np:=@not_false_eq_true
abbrev M':=@List.getElem?_set
abbrev U9:=@decide_eq_false_iff_not
abbrev US:=@List.getElem?_replicate
abbrev Nn:=@beq_self_eq_true
abbrev Nd:=@List.mem_flatMap
abbrev Nb:=@List.length_drop
abbrev UD:=@Array.getElem?_extract
abbrev HM:=@Nat.mul_comm
abbrev Ni:=@List.range_succ
abbrev Ng:=@List.nodup_cons
abbrev DX:=@bne_iff_ne
abbrev DU:=@Nat.mod_lt
abbrev U7:=@bne_eq_false_iff_eq
abbrev UU:=@List.map_congr_left
abbrev UF:=@Array.length_toList
abbrev UE:=@Array.getElem?_push
abbrev U2:=@Nat.lt_of_le_of_lt
abbrev UY:=@List.pairwise_cons
abbrev UL:=@List.countP_append
abbrev UB:=@Array.foldl_toList
abbrev UA:=@Array.all_eq_true'
abbrev UT:=@List.length_range
abbrev UP:=@List.ext_getElem?
abbrev UM:=@List.count_append
abbrev UK:=@Int.toNat_natCast
abbrev U8:=@decide_eq_decide
abbrev HN:=@cond_true
abbrev UQ:=@List.foldl_cons
abbrev UN:=@List.count_cons
abbrev U3:=@Nat.mul_le_mul
abbrev aeI:=@List.getElem?_zip_eq_some
abbrev UO:=@List.drop_drop
abbrev aeF:=@Array.mapM_eq_mapM_toList
abbrev aeH:=@List.eq_of_mem_replicate
abbrev aeE:=@Array.getElem?_replicate
abbrev U1:=@Nat.lt_irrefl
abbrev aeO:=@Nat.add_sub_cancel_left
abbrev UH:=@Bool.not_true
abbrev UG:=@Bool.false_or
abbrev aeM:=@List.range_succ_eq_map
abbrev aeL:=@List.pairwise_lt_range
abbrev aeJ:=@List.head?_eq_getElem?
abbrev aeG:=@ByteArray.data_extract
abbrev U5:=@Nat.zero_mul
abbrev U4:=@Nat.pow_succ
abbrev aeP:=@Nat.le_of_ble_eq_true
abbrev U0:=@List.sum_nil
abbrev UZ:=@List.set_set
abbrev aeN:=@List.set_getElem_self
abbrev aeK:=@List.mem_append_right
abbrev UW:=@List.map_map
end Go
namespace Go.ax
inductive Tag where | im (nil:Bool) | own
 deriving DecidableEq
inductive D where
 | int (k:IntKind) (n:Int)
 | bool (b:Bool)
 | str (s:List UInt8)
 | sl (t:Tag) (sz:Nat) (rows:List (List D))
 | dead
 deriving Inhabited
def xD:D→Bool
 | .int .u8 _=>true
 | _=>false
def tj:List D→Bool
 | [d]=>xD d
 | _=>false
def lS (rows:List (List D)):Bool:=rows.isEmpty||rows.any fun r=>!tj r
def fT (bytes:Nat) (src:List (List D)) (em:Bool):Bool:=lS src||bytes==1
def AI (z dH:D):Bool:=!xD z||xD dH
def Hn:List D→List D→Bool
 | z::zs,o::os=>AI z o&&Hn zs os
 | _,_=>true
inductive aI where | e (i:Nat) | l (i:Nat) | g (i:Nat)
 deriving DecidableEq,Inhabited
def aI.iU:aI→Bool
 | .g _=>true
 | _=>false
inductive Key where | s (i:Nat) | b (r:aI) (c:Nat) | r (r:aI) | h (i:Nat) | a (k:Key)
 deriving DecidableEq,Inhabited
structure Place where
 k:Key
 j:Nat
 p:List (Nat×Nat)
 deriving DecidableEq,Inhabited
def Place.sub (pl:Place) (i c:Nat):Place:={ pl with p:=pl.p++[(i,c)] }
inductive C where
 | d (x:D)
 | ptr (r:aI) (g c:Nat)
 | eE (pl:Place) (g sz i c:Nat)
 | pp (cells:List D)
 | view (pl:Place) (g sz off len:Nat)
 | c6 (pl:Place) (g a sz:Nat) (rows:List (List D))
 | fn (f:Nat) (first cap:List C)
 | cz | eX | fS
 | fm
 | bu (t:Nat)
 | mp (x:D)
 | gi (i g:Nat)
 | dead
 deriving Inhabited
inductive V where
 | one (c:C)
 | agg (cs:List C)
 | aq (vs:List V)
 deriving Inhabited
abbrev kL:Nat:=1000000000000
def zQ (n:Nat):Bool:=Nat.ble n 999999999999
theorem JR {n:Nat} (h:zQ n=true):n < kL:=Nat.lt_succ_of_le (aeP h)
def V.dead:V:=.one .dead
def cj:V→Nat
 | .one (.d (.int _ n))=>n.toNat
 | _=>0
def fx (n:Nat):V:=.one (.d (.int .i64 n))
structure mN where
 v:V
 g:Nat
 deriving Inhabited
abbrev St:=List (Key×mN)
def St.get (S:St) (k:Key):mN:=
 match S with
 | []=>⟨.one .dead,0⟩
 | (k',e)::t=>if k'=k then e else St.get t k
def St.put (S:St) (k:Key) (e:mN):St:=
 match S with
 | []=>[(k,e)]
 | (k',e')::t=>if k'=k then (k,e)::t else (k',e')::St.put t k e
structure Wr where
 k:Key
 v:V
 keep:Bool:=false
 deriving Inhabited
def St.wr (S:St) (x:Wr):St:=S.put x.k ⟨x.v,if x.keep then (S.get x.k).g else (S.get x.k).g+1⟩
def St.ah (S:St):List Wr→St
 | []=>S
 | x::t=>(S.ah t).wr x
def aoM {R:Type} (b:Bool) (k:Unit→Option R):Option R:=bif b then k () else none
def GU {R:Type} (b:Bool) (k:Bool→Option R):Option R:=bif b then k true else k false
def iX {R:Type} (d:D) (k:Nat→List (List D)→Option R):Option R:=match d with | .sl .own sz rows=>k sz rows | _=>none
def aD {β R:Type} (o:Option β) (k:β→Option R):Option R:=match o with | some b=>k b | none=>none
inductive Q (α:Type):Type 1 where
 | ret (a:α)
 | get (k:Key) (f:mN→Q α)
 | ou {β:Type} (h:(R:Type)→(β→Option R)→Option R) (nat:∀(R:Type) (k:β→Option R),h R k=(h β some).bind k) (f:β→Q α)
 | no
namespace Q
def bind {α β:Type}:Q α→(α→Q β)→Q β
 | .ret a,f=>f a
 | .get k g,f=>.get k fun e=>(g e).bind f
 | .ou h nat g,f=>.ou h nat fun b=>(g b).bind f
 | .no,_=>.no
instance:Monad Q where
 pure:=Q.ret
 bind:=Q.bind
def at_ (k:Key):Q mN:=.get k .ret
def run {α:Type} (S:St):Q α→Option α
 | .ret a=>some a
 | .get k f=>(f (S.get k)).run S
 | .ou h _ f=>h α fun b=>(f b).run S
 | .no=>none
def reads {α:Type} (S:St):Q α→List Key
 | .ret _=>[]
 | .get k f=>k::(f (S.get k)).reads S
 | .ou h _ f=>(h (List Key) fun b=>some ((f b).reads S)).getD []
 | .no=>[]
def guard (b:Bool):Q Unit:=.ou (fun _ k=>aoM b fun _=>k ()) (by intro R k;cases b<;>rfl) .ret
def dr {α:Type} (o:Option α):Q α:=.ou (fun _ k=>aD o k) (by intro R k;cases o<;>rfl) .ret
def ask (b:Bool):Q Bool:=.ou (fun _ k=>GU b k) (by intro R k;cases b<;>rfl) .ret
def NO (d:D):Q D:=.ou (fun _ k=>iX d fun sz rows=>k (.sl .own sz rows)) (by intro R k;unfold iX;split<;>rfl) .ret
end Q
section
variable {α β:Type} (S:St)
@[simp] theorem Q.arD (a:α):(Q.ret a).run S=some a:=rfl
@[simp] theorem Q.run_pure (a:α):(pure a:Q α).run S=some a:=rfl
@[simp] theorem Q.arC:(Q.no:Q α).run S=none:=rfl
@[simp] theorem Q.run_get (k:Key) (f:mN→Q α):(Q.get k f).run S=(f (S.get k)).run S:=rfl
@[simp] theorem Q.uA (k:Key):(Q.at_ k).run S=some (S.get k):=rfl
theorem Q.run_bind' (x:Q α) (f:α→Q β):(x.bind f).run S=(x.run S).bind fun a=>(f a).run S:=by
 induction x with
 | ret a=>rfl
 | get k g ih=>simp only [Q.bind,Q.run];exact ih _
 | ou h nat g ih=>
  simp only [Q.bind,Q.run];rw [nat,nat α];cases hh:h _ some with
  | none=>rfl
  | some b=>simp only [Option.bind];exact ih b
 | no=>rfl
@[simp] theorem Q.run_bind (x:Q α) (f:α→Q β):(x >>= f).run S=(x.run S).bind fun a=>(f a).run S:=Q.run_bind' S x f
@[simp] theorem Q.lD (b:Bool):(Q.guard b).run S=if b then some () else none:=by cases b<;>rfl
@[simp] theorem Q.ym (x:Option α):(Q.dr x).run S=x:=by cases x<;>rfl
@[simp] theorem Q.MD (b:Bool):(Q.ask b).run S=some b:=by cases b<;>rfl
theorem Q.apm {d y:D} (h:(Q.NO d).run S=some y):y=d:=by
 have h':(iX d fun sz rows=>some (D.sl .own sz rows))=some y:=h;unfold iX at h';split at h'
 ·simpa using h'.symm
 ·cases h'
@[simp] theorem Q.run_ite (c:Prop) [Decidable c] (x y:Q α):(if c then x else y).run S=if c then x.run S else y.run S:=by split<;>rfl
theorem Q.Tp {S S':St} (x:Q α) (h:∀k∈x.reads S,S'.get k=S.get k):x.run S'=x.run S∧x.reads S'=x.reads S:=by
 induction x with
 | ret a=>exact ⟨rfl,rfl⟩
 | get k f ih=>
  have hk:=h k (by simp [Q.reads]);have:=ih (S.get k) (fun k' iG=>h k' (by simp [Q.reads,iG]));simp only [Q.run,Q.reads,hk];exact ⟨this.1,by rw [this.2]⟩
 | ou c nat f ih=>
  simp only [Q.run,Q.reads] at h ⊢;rw [nat,nat _ (fun b=>(f b).run S),nat (List Key) (fun b=>some ((f b).reads S')),nat (List Key) (fun b=>some ((f b).reads S))];rw [nat (List Key)] at h;cases hc:c _ some with
  | none=>exact ⟨rfl,rfl⟩
  | some b=>
   rw [hc] at h;have:=ih b h;simp only [Option.bind,Option.getD];exact this
 | no=>exact ⟨rfl,rfl⟩
end
theorem St.aiX (S:St) (k k':Key) (e:mN):(S.put k e).get k'=if k=k' then e else S.get k':=by
 induction S with
 | nil=>simp only [St.put,St.get]
 | cons x t ih=>
  obtain ⟨k0,e0⟩:=x;simp only [St.put];by_cases h0:k0=k
  ·subst h0;simp only [bW,St.get];by_cases h:k0=k'<;>simp [h]
  ·simp only [h0,dE,St.get,ih];by_cases h1:k0=k'
   ·subst h1;simp [Ne.symm h0]
   ·simp [h1]
end Go.ax
end
namespace Go.ax
section
inductive X where | s (i:Nat) | t (i:Nat) | c (v:V) | f (n:Nat)
 deriving Inhabited
inductive Cv where | int (k:IntKind) | Ij | TX | same
 deriving DecidableEq
inductive Fl where | int | bool | str
 deriving DecidableEq,Inhabited
inductive TC where | other | bool | struct (fs:List Fl) | ptr | slice | func | iface
 deriving Inhabited
inductive pa where
 | LB (x:X)
 | R6 (x:X)
 | pick (c a b:X)
 | alloc (zero:List C)
 | NH (t:Nat) (zero:List C)
 | box (n:Nat) (x:X)
 | NZ (t n:Nat) (x:X)
 | build (zero:List C) (parts:List (Nat×Nat×X))
 | Pp (parts:List X)
 | N0 (sz:Nat) (rows:List (List D)) (parts:List (Nat×X))
 | load (n:Nat) (agg:Bool) (x:X)
 | store (mv:Bool) (n:Nat) (x v:X)
 | bin (tc:TC) (op:BinOp) (x y:X)
 | un (op:UnOp) (x:X)
 | conv (c:Cv) (x:X)
 | RN (f:Nat) (first cap:List X)
 | RQ (sz bytes:Nat) (zero:List D) (l c:X)
 | Tz (x:X) (lo hi:Option X)
 | slice (sz:Nat) (x:X) (lo hi mx:Option X)
 | Pj (off:Nat) (x:X)
 | field (off n:Nat) (agg:Bool) (x:X)
 | Q7 (sz:Nat) (x i:X)
 | Q8 (n sz:Nat) (x i:X)
 | index (x i:X)
 | extract (j:Nat) (x:X)
 | len (str:Bool) (x:X)
 | app (sz bytes:Nat) (x y:X)
 | A5 (sz bytes:Nat) (x y:X)
 | A3 (x y:X)
 | min (x y:X)
 | max (x y:X)
 | call (f:X) (args:List (Bool×X))
 | RO (x:X)
 | Ts (x:X)
 | T' (x n:X)
 | RP
 | RM (m k:X)
 | RT (m k v:X)
 | bad
 deriving Inhabited
def BF (tag:Nat):C→Option (List C)
 | .fn t [] l=>match Nat.beq t tag with | true=>some l | false=>none
 | _=>none
theorem Pm {tag:Nat} {c:C} {l:List C} (h:BF tag c=some l):c = .fn tag [] l:=by
 unfold BF at h;split at h
 ·split at h
  ·rename_i t l' hb;cases h;rw [mM hb]
  ·cases h
 ·cases h
def C.ZM:C→Bool
 | .fn n _ _=>zQ n
 | _=>false
def C.own:C→Bool
 | .d (.sl .own _ _)=>true
 | .c6 .. => true
 | .bu _=>true
 | .mp _=>true
 | _=>false
def V.cells:V→List C
 | .one c=>[c]
 | .agg cs=>cs
 | .aq _=>[]
def V.own (v:V):Bool:=v.cells.any C.own
mutual
def kV:D→D
 | .int k n=>.int k n
 | .bool b=>.bool b
 | .str s=>.str s
 | .sl .own sz rows=>.sl (.im false) sz (aW rows)
 | .sl (.im b) sz rows=>.sl (.im b) sz rows
 | .dead=>.dead
def Df:List D→List D
 | []=>[]
 | d::t=>kV d::Df t
def aW:List (List D)→List (List D)
 | []=>[]
 | r::t=>Df r::aW t
end
def C.plain:C→C
 | .d x=>.d (kV x)
 | .mp _=>.dead
 | c=>c
def V.plain:V→V
 | .one c=>.one c.plain
 | .agg cs=>.agg (cs.map C.plain)
 | .aq vs=>.aq vs
def C.look (k:Key) (g j:Nat):C→C
 | .d (.sl .own sz rows)=>.view ⟨k,j,[]⟩ g sz 0 rows.length
 | .c6 .. => .dead
 | .bu _=>.dead
 | .mp _=>.dead
 | c=>c
def um (k:Key) (g:Nat):Nat→List C→List C
 | _,[]=>[]
 | j,c::cs=>c.look k g j::um k g (j+1) cs
def V.look (k:Key) (g:Nat):V→V
 | .one c=>.one (c.look k g 0)
 | .agg cs=>.agg (um k g 0 cs)
 | .aq vs=>.aq vs
def eo:D→List (Nat×Nat)→Option D
 | d,[]=>some d
 | .sl .own _ rows,(i,c)::p=>((rows[i]?).bind (·[c]?)).bind (eo · p)
 | _,_::_=>none
def eG (x:D) (p:List (Nat×Nat)) (y:D):D:=
 match p with
 | []=>y
 | (i,c)::p=>
  match x with
  | .sl .own sz rows=>.sl .own sz (rows.set i ((rows.getD i []).set c (eG (((rows.getD i [])).getD c (.bool false)) p y)))
  | x=>x
def V.setCell (v:V) (j:Nat) (c:C):V:=
 match v with
 | .one c0=>if j=0 then .one c else .one c0
 | .agg cs=>.agg (cs.set j c)
 | .aq vs=>.aq vs
def D.flat:D→Bool
 | .sl .. => false
 | .dead=>false
 | _=>true
def C.flat:C→Bool
 | .d x=>x.flat
 | _=>false
def V.flat:V→Bool
 | .one c=>c.flat
 | .agg cs=>cs.all C.flat
 | .aq vs=>go vs
where go:List V→Bool
 | []=>true
 | v::t=>v.flat&&go t
def rd:X→Q V
 | .s i=>do let e ←Q.at_ (.s i);pure (e.v.look (.s i) e.g)
 | .t i=>do let e ←Q.at_ (.s i);pure (e.v.look (.s i) e.g)
 | .c v=>pure v
 | .f n=>pure (.one (.fn n [] []))
def nj (ws:List Wr) (k:Key) (v:V):List Wr:={ k,v } :: ws
def p8:List Wr→Key→Option V
 | [],_=>none
 | x::t,k=>if x.k=k then some x.v else p8 t k
def r5 (ws:List Wr) (k:Key):Q mN:=do
 let e ←Q.at_ k
 match p8 ws k with
 | some v=>pure ⟨v,e.g⟩
 | none=>pure e
def fresh (ws:List Wr) (k:Key):Bool:=(p8 ws k).isNone&&(p8 ws (.a k)).isNone
def tk (ws:List Wr):X→Q (V×List Wr)
 | .t i=>do
  let e ←Q.at_ (.s i)
  Q.guard (p8 ws (.s i)).isNone
  if e.v.own then pure (e.v,nj ws (.s i) V.dead) else pure (e.v,ws)
 | x=>do let v ←rd x;pure (v,ws)
def xN:D→List (Nat×Nat)→Q D
 | d,[]=>pure d
 | .sl .own _ rows,(i,c)::p=>do
  let row ←Q.dr rows[i]?
  let y ←Q.dr row[c]?
  let y ←Q.NO y
  xN y p
 | _,_::_=>Q.no
def ju (ws:List Wr) (pl:Place) (g sz:Nat):Q (mN×D×List (List D)):=do
 let e ←r5 ws pl.k
 Q.guard (e.g==g)
 match e.v.cells[pl.j]? with
 | some (.d x)=>do
  let y ←xN x pl.p
  match y with
  | .sl .own cp rows=>do Q.guard (cp==sz);pure (e,x,rows)
  | _=>Q.no
 | _=>Q.no
def st (ws:List Wr):C→Q (C×List Wr)
 | .view pl g sz off len=>do
  let (e,x,rows) ←ju ws pl g sz
  Q.guard (decide (off+len≤rows.length))
  pure (.d (.sl (.im false) sz (aW ((rows.drop off).take len))),nj ws pl.k (e.v.setCell pl.j (.d (eG x pl.p (.sl (.im false) sz (aW rows))))))
 | .c6 pl g a sz rows=>do
  let (e,x,dH) ←ju ws pl g sz
  let ea ←Q.at_ (.a pl.k)
  Q.guard (ea.g==a&&fresh ws pl.k)
  pure (.d (.sl (.im false) sz (aW rows)),nj ws pl.k (e.v.setCell pl.j (.d (eG x pl.p (.sl (.im false) sz (aW dH))))))
 | .eE .. => Q.no
 | .bu _=>Q.no
 | .mp _=>Q.no
 | .gi .. => Q.no
 | .dead=>Q.no
 | c=>pure (c,ws)
def lE (ws:List Wr):List C→Q (List C×List Wr)
 | []=>pure ([],ws)
 | c::cs=>do
  let (c',ws) ←st ws c
  let (ey,ws) ←lE ws cs
  pure (c'::ey,ws)
def sN (v:V) (pl:Place) (x:D):V:=v.setCell pl.j (.d (eG x pl.p .dead))
def settle (ws:List Wr) (pl:Place) (g a sz:Nat) (rows:List (List D)):Q (C×List Wr):=do
 let (e,x,_) ←ju ws pl g sz
 let ea ←Q.at_ (.a pl.k)
 Q.guard (ea.g==a&&fresh ws pl.k)
 pure (.d (.sl .own sz rows),nj ws pl.k (sN e.v pl x))
def oV (ws:List Wr) (P:Place):C→Q (C×List Wr)
 | .c6 pl g a sz rows=>if pl=P then settle ws pl g a sz rows else st ws (.c6 pl g a sz rows)
 | c=>st ws c
def Key.Gw:Key→Bool
 | .b (.e _) _=>false
 | _=>true
def ta (ws:List Wr) (P:Place):C→Q (C×List Wr)
 | .view pl g sz off len=>do
  let (e,x,rows) ←ju ws pl g sz
  let t ←Q.ask (!(pl.k==P.k)&&pl.k.Gw&&(off==0&&len==rows.length && !rows.isEmpty))
  if t then
   pure (.d (.sl .own sz rows),nj ws pl.k (sN e.v pl x))
  else st ws (.view pl g sz off len)
 | .c6 pl g a sz rows=>
  if !(pl.k==P.k)&&pl.k.Gw then settle ws pl g a sz rows
  else oV ws P (.c6 pl g a sz rows)
 | c=>st ws c
def lQ (agg:Bool) (cs:List C):Q V:=
 if agg then pure (.agg cs) else match cs with
  | [c]=>pure (.one c)
  | _=>Q.no
def wc (r:aI):Nat→Nat→Q (List C)
 | _,0=>pure []
 | c,n+1=>do
  let e ←Q.at_ (.b r c)
  match e.v with
  | .one x=>do let t ←wc r (c+1) n;pure (x.look (.b r c) e.g 0::t)
  | _=>Q.no
def RE (pl:Place) (g:Nat):D→C
 | .sl .own sz rows=>.view pl g sz 0 rows.length
 | y=>.d y
def rj (pl:Place) (g i:Nat):Nat→List D→List C
 | _,[]=>[]
 | c,x::t=>RE (pl.sub i c) g x::rj pl g i (c+1) t
def gf (r:aI):Nat→List C→List Wr→List Wr
 | _,[],ws=>ws
 | c,x::t,ws=>gf r (c+1) t ({ k:=.b r c,v:=.one x } :: ws)
def boxed (dst:Nat) (cs:List C) (ws:List Wr):Q (V×List Wr):=do
 let e ←r5 ws (.r (.l dst))
 Q.guard (cj e.v==0||cj e.v==cs.length)
 pure (.one (.ptr (.l dst) (e.g+1) 0),gf (.l dst) 0 cs ({ k:=.r (.l dst),v:=fx cs.length } :: ws))
def DA {α:Type} (l:List α) (off:Nat) (cs:List α):List α:=l.take off++cs++l.drop (off+cs.length)
def EB (ws:List Wr):List C→List (Nat×Nat×X)→Q (List C×List Wr)
 | cells,[]=>pure (cells,ws)
 | cells,(off,n,x)::rest=>do
  let (v,ws) ←tk ws x
  let (cs,ws) ←lE ws v.cells
  Q.guard (cs.length==n&&decide (off+n≤cells.length))
  EB ws (DA cells off cs) rest
def mR:List C→Option (List D)
 | []=>some []
 | .d x::t=>(mR t).map (x :: ·)
 | _::_=>none
def EC (sz:Nat) (ws:List Wr):List (List D)→List (Nat×X)→Q (List (List D)×List Wr)
 | rows,[]=>pure (rows,ws)
 | rows,(i,x)::rest=>do
  let (v,ws) ←tk ws x
  let (cs,ws) ←lE ws v.cells
  let row ←Q.dr (mR cs)
  Q.guard (row.length==sz&&decide (i < rows.length))
  EC sz ws (rows.set i row) rest
def D.da:List UInt8→List (List D):=fun s=>s.map fun b=>[.int .u8 b.toNat]
def kA:List (List D)→Option (List UInt8)
 | []=>some []
 | [.int .u8 n]::t=>(kA t).map (UInt8.ofNat n.toNat :: ·)
 | _::_=>none
def qv:List (List D)→List UInt8→Bool
 | [.str k,.bool b]::t,s=>bif s==k then b else qv t s
 | _,_=>false
def qw:List (List D)→List UInt8→Bool→List (List D)
 | [.str k,.bool b]::t,s,v=>bif s==k then [.str s,.bool v]::t else [.str k,.bool b]::qw t s v
 | _,s,v=>[[.str s,.bool v]]
def bytesLess:List UInt8→List UInt8→Bool
 | _,[]=>false
 | [],_::_=>true
 | a::x,b::y=>a < b||(a==b&&bytesLess x y)
def Hi (op:BinOp) (x y:List UInt8):Option D:=
 match op with
 | .add=>if x.length+y.length≤9223372036854775807 then some (.str (x++y)) else none
 | .eql=>some (.bool (x==y))
 | .neq=>some (.bool (!(x==y)))
 | .lss=>some (.bool (bytesLess x y))
 | .leq=>some (.bool (bytesLess x y||x==y))
 | .gtr=>some (.bool (!(bytesLess x y||x==y)))
 | .geq=>some (.bool (!bytesLess x y))
 | _=>none
def Cp (op:BinOp) (k:IntKind) (x y:Int):Option D:=
 match op with
 | .add=>some (.int k (k.wrap (x+y)))
 | .sub=>some (.int k (k.wrap (x - y)))
 | .mul=>some (.int k (k.wrap (x * y)))
 | .quo=>if y=0 then none else some (.int k (k.wrap (x.tdiv y)))
 | .rem=>if y=0 then none else some (.int k (x.tmod y))
 | .and=>some (.int k (k.wrap (BitVec.ofInt k.bits x &&& BitVec.ofInt k.bits y).toNat))
 | .or=>some (.int k (k.wrap (BitVec.ofInt k.bits x ||| BitVec.ofInt k.bits y).toNat))
 | .xor=>some (.int k (k.wrap (BitVec.ofInt k.bits x ^^^ BitVec.ofInt k.bits y).toNat))
 | .andNot=>some (.int k (k.wrap (BitVec.ofInt k.bits x &&& ~~~(BitVec.ofInt k.bits y)).toNat))
 | .eql=>some (.bool (x==y))
 | .neq=>some (.bool (x != y))
 | .lss=>some (.bool (decide (x < y)))
 | .leq=>some (.bool (decide (x≤y)))
 | .gtr=>some (.bool (decide (x > y)))
 | .geq=>some (.bool (decide (x≥y)))
 | _=>none
def Dz (op:BinOp) (k:IntKind) (x y:Int):Option D:=
 if y < 0 then none else
 match op with
 | .shl=>some (.int k (k.wrap (x * 2 ^ (Min.min y.toNat k.bits))))
 | .shr=>some (.int k (x.fdiv (2 ^ (Min.min y.toNat k.bits))))
 | _=>none
def dz:List Fl→List C→List C→Option Bool
 | [],[],[]=>some true
 | .int::r,.d (.int k x)::s,.d (.int k' y)::t=>if k=k' then (dz r s t).map (x==y && ·) else none
 | .bool::r,.d (.bool x)::s,.d (.bool y)::t=>(dz r s t).map (x==y && ·)
 | .str::r,.d (.str x)::s,.d (.str y)::t=>(dz r s t).map (x==y && ·)
 | _,_,_=>none
def jJ:TC→C→Option Bool
 | .ptr,.cz=>some true
 | .ptr,.ptr .. => some false
 | .func,.eX=>some true
 | .func,.fn n _ _=>match zQ n with | true=>some false | false=>none
 | .iface,.fS=>some true
 | .iface,.fm=>some false
 | .slice,.d (.sl (.im b) _ _)=>some b
 | .slice,.view .. => some false
 | _,_=>none
def r6 (tc:TC) (op:BinOp) (x y:V):Option D:=
 match x,y with
 | .one (.d (.int k a)),.one (.d (.int k' b))=>
  match op with
  | .shl=>Dz .shl k a b
  | .shr=>Dz .shr k a b
  | _=>if k=k' then Cp op k a b else none
 | .one (.d (.str a)),.one (.d (.str b))=>Hi op a b
 | .one (.d (.bool a)),.one (.d (.bool b))=>
  match tc,op with
  | .bool,.eql=>some (.bool (a==b))
  | .bool,.neq=>some (.bool (!(a==b)))
  | _,_=>none
 | .agg a,.agg b=>
  match tc,op with
  | .struct fs,.eql=>(dz fs a b).map .bool
  | .struct fs,.neq=>(dz fs a b).map fun r=>.bool (!r)
  | _,_=>none
 | .one a,.one b=>
  if jJ tc b=some true then
   match op with
   | .eql=>(jJ tc a).map .bool
   | .neq=>(jJ tc a).map fun r=>.bool (!r)
   | _=>none
  else none
 | _,_=>none
def unV (op:UnOp) (x:V):Option D:=
 match op,x with
 | .not,.one (.d (.bool b))=>some (.bool (!b))
 | .neg,.one (.d (.int k n))=>some (.int k (k.wrap (0 - n)))
 | .xor,.one (.d (.int k n))=>some (.int k (k.wrap (BitVec.ofInt k.bits (if k.signed then -1 else k.max) ^^^ BitVec.ofInt k.bits n).toNat))
 | _,_=>none
def asNat:V→Option Nat
 | .one (.d (.int _ n))=>if 0≤n then some n.toNat else none
 | _=>none
def qy (x:Option X) (d:Nat):Q Nat:=
 match x with
 | none=>pure d
 | some x=>do let v ←rd x;Q.dr (asNat v)
def shown:V→Q (List (List D))
 | .one (.d (.sl .own _ _))=>Q.no
 | .one (.d (.sl _ _ rows))=>pure rows
 | .one (.view pl g sz off len)=>do
  let (_,_,rows) ←ju [] pl g sz
  Q.guard (decide (off+len≤rows.length))
  pure (aW ((rows.drop off).take len))
 | _=>Q.no
def Ty:X→Q (List (List D))
 | .s i=>do
  let e ←Q.at_ (.s i)
  match e.v with
  | .one (.c6 pl g a _ rows)=>do
   let ep ←Q.at_ pl.k
   let ea ←Q.at_ (.a pl.k)
   Q.guard (ep.g==g&&ea.g==a)
   pure rows
  | _=>Q.no
 | _=>Q.no
def rowsOf (sz:Nat) (ws:List Wr) (v:V):Q (List (List D)×List Wr):=
 match v with
 | .one c=>do
  let (c',ws) ←st ws c
  match c' with
  | .d (.sl _ cp rows)=>do Q.guard (cp==sz||rows.isEmpty);pure (rows,ws)
  | _=>Q.no
 | _=>Q.no
def wQ (sz bytes:Nat) (v:V) (ws:List Wr) (src:List (List D)):Q (V×List Wr):=
 match v with
 | .one (.d (.sl .own cp rows))=>do
  Q.guard (fT bytes src rows.isEmpty&&(cp==sz&&decide ((rows.length+src.length) * bytes≤140737488355328)))
  pure (.one (.d (.sl .own sz (rows++src))),ws)
 | .one (.d (.sl (.im b) cp _))=>do
  Q.guard (fT bytes src false&&(b&&cp==sz&&decide (src.length * bytes≤140737488355328)))
  pure (.one (.d (.sl (if src.isEmpty then .im true else .own) sz src)),ws)
 | .one (.view pl g cp off len)=>do
  let (_,_,rows) ←ju ws pl g sz
  Q.guard (fT bytes src rows.isEmpty&&cp==sz&&off==0&&len==rows.length&&fresh ws pl.k&&decide ((rows.length+src.length) * bytes≤140737488355328))
  let ea ←Q.at_ (.a pl.k)
  pure (.one (.c6 pl g (ea.g+1) sz (rows++src)),{ k:=.a pl.k,v:=V.dead } :: ws)
 | .one (.c6 pl g a cp rows)=>do
  let (_,_,dH) ←ju ws pl g sz
  let ea ←Q.at_ (.a pl.k)
  Q.guard (fT bytes src rows.isEmpty&&cp==sz&&decide (dH.length≤rows.length)&&ea.g==a&&fresh ws pl.k&&decide ((rows.length+src.length) * bytes≤140737488355328))
  pure (.one (.c6 pl g (ea.g+1) sz (rows++src)),{ k:=.a pl.k,v:=V.dead } :: ws)
 | _=>Q.no
def aa6 (dst:Nat) (v:V) (ws:List Wr):Q (V×List Wr):=
 match v with
 | .one (.c6 pl g a sz rows)=>do
  let (c,ws) ←settle ws pl g a sz rows
  pure (.one c,ws)
 | .one (.view pl g sz off len)=>
  if pl.k = .s dst then do
   let (c,ws) ←st ws (.view pl g sz off len)
   pure (.one c,ws)
  else pure (v,ws)
 | _=>pure (v,ws)
def sj (rows:List (List D)):Bool:=rows.all fun r=>r.all D.flat
def XL (sz bytes:Nat) (x y:X):Q (V×List Wr):=do
 let (a,ws) ←tk [] y
 let (src,ws) ←rowsOf sz ws a
 let (v,ws) ←tk ws x
 wQ sz bytes v ws src
def va (P:Place) (i:Nat) (ws:List Wr):Nat→List C→Q (List D×List Wr)
 | _,[]=>pure ([],ws)
 | c,y::t=>do
  let (y',ws) ←oV ws (P.sub i c) y
  match y' with
  | .d z=>do
   let (zs,ws) ←va P i ws (c+1) t
   pure (z::zs,ws)
  | _=>Q.no
def w5 (v:V) (pl:Place) (i:Nat):Nat→List D→D→List Wr→Option (List Wr)
 | _,[],_,ws=>some ws
 | c,z::t,x,ws=>
  match eo x (pl.p++[(i,c)]) with
  | none=>none
  | some dH=>
   if AI z dH=true then
   w5 (v.setCell pl.j (.d (eG x (pl.p++[(i,c)]) z))) pl i (c+1) t (eG x (pl.p++[(i,c)]) z)
    ({ k:=pl.k,v:=v.setCell pl.j (.d (eG x (pl.p++[(i,c)]) z)),keep:=dH.flat&&z.flat } :: { k:=.a pl.k,v:=V.dead } :: ws)
   else none
def Mf (mv:Bool) (ws:List Wr) (P:Place) (y:C):Q (C×List Wr):=if mv then ta ws P y else oV ws P y
def putCells (mv:Bool) (r:aI) (ws:List Wr):Nat→List C→Q (List C×List Wr)
 | _,[]=>pure ([],ws)
 | c,y::t=>do
  let (y',ws) ←Mf mv ws ⟨.b r c,0,[]⟩ y
  let (ys,ws) ←putCells mv r ws (c+1) t
  pure (y'::ys,ws)
end
section
abbrev bX:=Nat→List V→List (List C)→Option (V×List (List C))
mutual
def C.vX:C→List (aI×Nat)
 | .ptr r g _=>[(r,g)]
 | .fn _ a b=>kW a++kW b
 | _=>[]
def kW:List C→List (aI×Nat)
 | []=>[]
 | c::t=>c.vX++kW t
end
def rZ:List aI→List (aI×Nat)→List aI
 | rs,[]=>rs
 | rs,(r,_)::t=>if rs.contains r then rZ rs t else rZ (rs++[r]) t
def xK (ws:List Wr):List (aI×Nat)→Q Unit
 | []=>pure ()
 | (r,g)::t=>do
  let e ←Q.at_ (.r r)
  Q.guard (e.g==g&&(p8 ws (.r r)).isNone && !r.iU)
  xK ws t
def As (ws:List Wr) (r:aI):Nat→Nat→Q (List C)
 | _,0=>pure []
 | c,n+1=>do
  let e ←r5 ws (.b r c)
  match e.v with
  | .one x=>do
   let t ←As ws r (c+1) n
   pure (x::t)
  | _=>Q.no
def zf (ws:List Wr):Nat→List aI→Nat→Q (List aI×List (List C))
 | 0,rs,i=>if rs.length≤i then pure (rs,[]) else Q.no
 | f+1,rs,i=>
  match rs[i]? with
  | none=>pure (rs,[])
  | some r=>do
   let er ←Q.at_ (.r r)
   let cs ←As ws r 0 (cj er.v)
   xK ws (kW cs)
   let (Ti,bs) ←zf ws f (rZ rs (kW cs)) (i+1)
   pure (Ti,cs::bs)
def jl (rs:List aI) (r:aI) (i:Nat):Option Nat:=
 match rs with
 | []=>none
 | x::t=>if x=r then some i else jl t r (i+1)
mutual
def C.dY (rs:List aI):C→Option C
 | .d x=>some (.d x)
 | .ptr r _ c=>(jl rs r 0).map fun i=>.ptr (.e i) 0 c
 | .pp cells=>some (.pp cells)
 | .fn f a b=>(lO rs a).bind fun a'=>(lO rs b).map fun b'=>.fn f a' b'
 | .cz=>some .cz
 | .eX=>some .eX
 | .fS=>some .fS
 | .fm=>some .fm
 | .bu t=>some (.bu t)
 | .dead=>some .dead
 | _=>none
def lO (rs:List aI):List C→Option (List C)
 | []=>some []
 | c::t=>(c.dY rs).bind fun c'=>(lO rs t).map (c' :: ·)
end
def V.Co (rs:List aI):V→Option V
 | .one c=>(c.dY rs).map .one
 | .agg cs=>(lO rs cs).map .agg
 | .aq _=>none
def ug (rs:List aI):List V→Option (List V)
 | []=>some []
 | v::t=>(v.Co rs).bind fun v'=>(ug rs t).map (v' :: ·)
def pF (rs:List aI):List (List C)→Option (List (List C))
 | []=>some []
 | v::t=>(lO rs v).bind fun v'=>(pF rs t).map (v' :: ·)
mutual
def C.dR (rs:List (aI×Nat)):C→Option C
 | .d x=>some (.d x)
 | .ptr (.e i) _ c=>(rs[i]?).map fun x=>.ptr x.1 x.2 c
 | .ptr _ _ _=>none
 | .pp cells=>some (.pp cells)
 | .fn f a b=>(nh rs a).bind fun a'=>(nh rs b).map fun b'=>.fn f a' b'
 | .cz=>some .cz
 | .eX=>some .eX
 | .fS=>some .fS
 | .fm=>some .fm
 | .bu t=>some (.bu t)
 | .dead=>some .dead
 | _=>none
def nh (rs:List (aI×Nat)):List C→Option (List C)
 | []=>some []
 | c::t=>(c.dR rs).bind fun c'=>(nh rs t).map (c' :: ·)
end
mutual
def V.pJ (rs:List (aI×Nat)):V→Option V
 | .one c=>(c.dR rs).map .one
 | .agg cs=>(nh rs cs).map .agg
 | .aq vs=>(sY rs vs).map .aq
def sY (rs:List (aI×Nat)):List V→Option (List V)
 | []=>some []
 | v::t=>(v.pJ rs).bind fun v'=>(sY rs t).map (v' :: ·)
end
def ru (rs:List (aI×Nat)):List (List C)→Option (List (List C))
 | []=>some []
 | v::t=>(nh rs v).bind fun v'=>(ru rs t).map (v' :: ·)
def BJ:List aI→Q (List (aI×Nat))
 | []=>pure []
 | x::t=>do
  let e ←Q.at_ (.r x)
  let l ←BJ t
  pure ((x,e.g)::l)
def C.same:C→C→Bool
 | .ptr r g c,.ptr r' g' c'=>decide (r=r')&&g==g'&&c==c'
 | _,_=>false
def mA (r:aI):Nat→List C→List C→List Wr→List Wr
 | c,x::t,y::u,ws=>mA r (c+1) t u (if y.same x then ws else { k:=.b r c,v:=.one x } :: ws)
 | _,_,_,ws=>ws
def jF:List aI→List (List C)→List (List C)→List Wr→List Wr
 | x::rs,cs::bs,ol::os,ws=>jF rs bs os (mA x 0 cs ol ws)
 | _,_,_,ws=>ws
def sR:List (List C)→List (List C)→Bool
 | [],[]=>true
 | x::t,y::u=>x.length==y.length&&sR t u
 | _,_=>false
def ye (ws:List Wr):List (Bool×X)→Q (List V×List Wr)
 | []=>pure ([],ws)
 | (_,x)::t=>do
  let (v,ws) ←tk ws x
  match v with
  | .one c=>do
   let (c',ws) ←st ws c
   let (vs,ws) ←ye ws t
   pure (.one c'.plain::vs,ws)
  | .agg cs=>do
   let (ey,ws) ←lE ws cs
   let (vs,ws) ←ye ws t
   pure (.agg (ey.map C.plain)::vs,ws)
  | .aq _=>Q.no
def tu:List V→List (aI×Nat)
 | []=>[]
 | v::t=>kW v.cells++tu t
def yS (Cl:bX) (dst:Nat) (f:Nat) (vs:List V) (ws:List Wr):Q (V×List Wr):=do
 xK ws (tu vs)
 let (rs,bs) ←zf ws 40 (rZ [] (tu vs)) 0
 let eR ←Q.dr (ug rs vs)
 let dK ←Q.dr (pF rs bs)
 let (r,out) ←Q.dr (Cl f eR dK)
 if rs.isEmpty&&r.flat&&out.isEmpty then pure (r,[])
 else do
  let gs ←BJ rs
  if out.length=rs.length then do
   let r' ←Q.dr (r.pJ gs)
   let cI ←Q.dr (ru gs out)
   Q.guard (sR cI bs)
   pure (r',jF rs cI bs ws)
  else do
   let e ←r5 ws (.r (.l dst))
   let EK:=gs++[(.l dst,e.g+1)]
   let r' ←Q.dr (r.pJ EK)
   let cI ←Q.dr (ru EK out)
   let nb:=cI.getD rs.length []
   Q.guard (out.length==rs.length+1&&sR (cI.take rs.length) bs&&(cj e.v==0||cj e.v==nb.length) && !rs.contains (.l dst))
   pure (r',gf (.l dst) 0 nb ({ k:=.r (.l dst),v:=fx nb.length } :: jF rs cI bs ws))
def zd (ws:List Wr):List X→Q (List C×List Wr)
 | []=>pure ([],ws)
 | x::t=>do
  let v ←rd x
  match v with
  | .one c=>do
   let (c',ws) ←st ws c
   let (r,ws) ←zd ws t
   pure (c'::r,ws)
  | _=>Q.no
def Tag.XC:Tag→Tag
 | .im b=>bif b then .im true else .own
 | .own=>.own
def bq (Cl:bX) (dst:Nat):pa→Q (V×List Wr)
 | .LB x=>do let (v,ws) ←tk [] x;aa6 dst v ws
 | .R6 x=>do
  let v ←rd x
  match v with
  | .one (.ptr ..)=>pure (v,[])
  | .one (.eE ..)=>pure (v,[])
  | .one (.pp _)=>pure (v,[])
  | .one (.fn n _ _)=>do
   Q.guard (zQ n)
   pure (v,[])
  | _=>Q.no
 | .pick c a b=>do
  let v ←rd c
  match v with
  | .one (.d (.bool true))=>do let r ←rd a;pure (r,[])
  | .one (.d (.bool false))=>do let r ←rd b;pure (r,[])
  | _=>Q.no
 | .alloc zero=>boxed dst zero []
 | .NH t zero=>do
  let (v,ws) ←boxed dst zero []
  pure (v,{ k:=.b (.l dst) 0,v:=.one (.bu t) } :: ws)
 | .box n x=>do
  let (v,ws) ←tk [] x
  let (cs,ws) ←lE ws v.cells
  Q.guard (cs.length==n)
  boxed dst cs ws
 | .NZ t n x=>do
  let (v,ws) ←tk [] x
  let (cs,ws) ←lE ws v.cells
  Q.guard (cs.length==n)
  match cs with
  | [.cz,z]=>do
   let (r,ws) ←boxed dst [.cz,z] ws
   pure (r,{ k:=.b (.l dst) 0,v:=.one (.bu t) } :: ws)
  | _=>Q.no
 | .build zero parts=>do let (cs,ws) ←EB [] zero parts;pure (.agg cs,ws)
 | .Pp parts=>do
  let (cs,ws) ←zd [] parts
  Q.guard (cs.all C.ZM)
  pure (.one (.fn kL [] cs),ws)
 | .N0 sz rows parts=>do
  let (rs,ws) ←EC sz [] rows parts
  Q.guard ((lS rs || !(lS rows))&&(!rs.isEmpty||parts.isEmpty))
  pure (.one (.d (.sl .own sz rs)),ws)
 | .load n agg x=>do
  let v ←rd x
  match v with
  | .one (.ptr r g c)=>do
   let e ←Q.at_ (.r r)
   Q.guard (!r.iU&&e.g==g&&decide (c+n≤cj e.v))
   let cs ←wc r c n
   let r' ←lQ agg cs
   pure (r',[])
  | .one (.pp cells)=>do
   Q.guard (decide (n≤cells.length))
   let r' ←lQ agg ((cells.take n).map .d)
   pure (r',[])
  | .one (.eE pl g sz i c)=>do
   let (_,_,rows) ←ju [] pl g sz
   let row ←Q.dr rows[i]?
   Q.guard (decide (c+n≤row.length))
   let r' ←lQ agg (rj pl g i c ((row.drop c).take n))
   pure (r',[])
  | .one (.fn t f l)=>do
   let l ←Q.dr (BF (kL+1) (.fn t f l))
   Q.guard (l.length==n)
   let r' ←lQ agg l
   pure (r',[])
  | _=>Q.no
 | .store mv n x v=>do
  let p ←rd x
  let (vv,ws) ←tk [] v
  Q.guard (vv.cells.length==n)
  match p with
  | .one (.ptr r g c)=>do
   let (cs,ws) ←putCells mv r ws c vv.cells
   let e ←r5 ws (.r r)
   Q.guard (!r.iU&&e.g==g&&decide (c+n≤cj e.v))
   pure (.aq [],gf r c cs ws)
  | .one (.eE pl g sz i c)=>do
   let (zs,ws) ←va pl i ws c vv.cells
   let (e,x0,rows) ←ju ws pl g sz
   let row ←Q.dr rows[i]?
   Q.guard (decide (c+n≤row.length))
   let ws ←Q.dr (w5 e.v pl i c zs x0 ws)
   pure (.aq [],ws)
  | _=>Q.no
 | .bin tc op x y=>do
  let a ←rd x
  let b ←rd y
  let r ←Q.dr (r6 tc op a b)
  pure (.one (.d r),[])
 | .un op x=>do
  let a ←rd x
  let r ←Q.dr (unV op a)
  pure (.one (.d r),[])
 | .conv c x=>do
  let a ←rd x
  match c,a with
  | .int k,.one (.d (.int _ n))=>pure (.one (.d (.int k (k.wrap n))),[])
  | .same,.one (.d (.str s))=>pure (.one (.d (.str s)),[])
  | .TX,.one (.d (.str s))=>do
   Q.guard (decide (s.length≤140737488355328))
   pure (.one (.d (.sl .own 1 (D.da s))),[])
  | .Ij,.one .dead=>do
   let rows ←Ty x
   let s ←Q.dr (kA rows)
   pure (.one (.d (.str s)),[])
  | .Ij,a=>do
   let rows ←shown a
   let s ←Q.dr (kA rows)
   pure (.one (.d (.str s)),[])
  | _,_=>Q.no
 | .RN f first cap=>do
  let (a,ws) ←zd [] first
  let (b,ws) ←zd ws cap
  pure (.one (.fn f a b),ws)
 | .RQ sz bytes zero l c=>do
  let n ←rd l
  let m ←rd c
  let n ←Q.dr (asNat n)
  let m ←Q.dr (asNat m)
  Q.guard (decide (n≤m)&&decide (m * bytes≤140737488355328)&&decide (m≤9223372036854775807)&&zero.length==sz&&(bytes==1||(!(tj zero)&&(!(n==0)||m==0))))
  pure (.one (.d (.sl .own sz (List.replicate n zero))),[])
 | .Tz x lo hi=>do
  let v ←rd x
  match v with
  | .one (.d (.str s))=>do
   let l ←qy lo 0
   let h ←qy hi s.length
   Q.guard (decide (l≤h)&&decide (h≤s.length))
   pure (.one (.d (.str ((s.drop l).take (h - l)))),[])
  | _=>Q.no
 | .slice pP x lo hi mx=>do
  let v ←rd x
  match v with
  | .one (.d (.sl .own _ _))=>Q.no
  | .one (.d (.sl t sz rows))=>do
   let l ←qy lo 0
   let h ←qy hi rows.length
   Q.guard ((sz==pP||rows.isEmpty)&&decide (l≤h)&&decide (h≤rows.length))
   match mx with
   | none=>pure (.one (.d (.sl t sz ((rows.drop l).take (h - l)))),[])
   | some x=>do
    let vm ←rd x
    let m ←Q.dr (asNat vm)
    Q.guard (m==0&&l==0&&h==0)
    pure (.one (.d (.sl t.XC sz [])),[])
  | .one (.view pl g sz off len)=>do
   let l ←qy lo 0
   let h ←qy hi len
   Q.guard (sz==pP&&decide (l≤h)&&decide (h≤len)&&mx.isNone&&(decide (0 < h)||len==0))
   pure (.one (.view pl g sz (off+l) (h - l)),[])
  | _=>Q.no
 | .Pj off x=>do
  let v ←rd x
  match v with
  | .one (.ptr r g c)=>pure (.one (.ptr r g (c+off)),[])
  | .one (.pp cells)=>pure (.one (.pp (cells.drop off)),[])
  | .one (.eE pl g sz i c)=>pure (.one (.eE pl g sz i (c+off)),[])
  | _=>Q.no
 | .field off n agg x=>do
  let v ←rd x
  match v with
  | .agg cs=>do
   Q.guard (decide (off+n≤cs.length))
   let r ←lQ agg ((cs.drop off).take n)
   pure (r,[])
  | _=>Q.no
 | .Q7 sz x i=>do
  let v ←rd x
  let vi ←rd i
  let i ←Q.dr (asNat vi)
  match v with
  | .one (.d (.sl .own _ _))=>Q.no
  | .one (.d (.sl _ cp rows))=>do
   Q.guard (cp==sz)
   let row ←Q.dr rows[i]?
   pure (.one (.pp row),[])
  | .one (.view pl g cp off len)=>do
   Q.guard (cp==sz&&decide (i < len))
   pure (.one (.eE pl g sz (off+i) 0),[])
  | .one (.fn t f l)=>do
   let l ←Q.dr (BF kL (.fn t f l))
   Q.guard (sz==1)
   let c ←Q.dr l[i]?
   pure (.one (.fn (kL+1) [] [c]),[])
  | _=>Q.no
 | .Q8 n sz x i=>do
  let v ←rd x
  let vi ←rd i
  let i ←Q.dr (asNat vi)
  Q.guard (decide (i < n))
  match v with
  | .one (.ptr r g c)=>pure (.one (.ptr r g (c+i * sz)),[])
  | _=>Q.no
 | .index x i=>do
  let v ←rd x
  let vi ←rd i
  let i ←Q.dr (asNat vi)
  match v with
  | .one (.d (.str s))=>do
   let b ←Q.dr s[i]?
   pure (.one (.d (.int .u8 b.toNat)),[])
  | _=>Q.no
 | .extract j x=>do
  let v ←rd x
  match v with
  | .aq vs=>do let r ←Q.dr vs[j]?;pure (r,[])
  | _=>Q.no
 | .len true x=>do
  let v ←rd x
  match v with
  | .one (.d (.str s))=>pure (.one (.d (.int .i64 s.length)),[])
  | _=>Q.no
 | .len false x=>do
  let v ←rd x
  match v with
  | .one (.d (.sl _ _ rows))=>pure (.one (.d (.int .i64 rows.length)),[])
  | .one (.view _ _ _ _ len)=>pure (.one (.d (.int .i64 len)),[])
  | .one (.fn t f l)=>do
   let l ←Q.dr (BF kL (.fn t f l))
   pure (.one (.d (.int .i64 l.length)),[])
  | _=>Q.no
 | .app sz bytes x y=>do
  let (a,ws) ←tk [] y
  let (src,ws) ←rowsOf sz ws a
  let (v,ws) ←tk ws x
  wQ sz bytes v ws src
 | .A5 sz bytes x y=>do
  let a ←rd y
  match a with
  | .one (.view pl g cp off len)=>do
   let (_,_,rows) ←ju [] pl g cp
   Q.guard (cp==sz&&decide (off+len≤rows.length)&&sj ((rows.drop off).take len))
   let (v,ws) ←tk [] x
   wQ sz bytes v ws ((rows.drop off).take len)
  | _=>XL sz bytes x y
 | .A3 x y=>do
  let a ←rd y
  match a with
  | .one (.d (.str s))=>do
   let (v,ws) ←tk [] x
   wQ 1 1 v ws (D.da s)
  | _=>Q.no
 | .min x y=>do
  let a ←rd x
  let b ←rd y
  match a,b with
  | .one (.d (.int k m)),.one (.d (.int _ n))=>pure (.one (.d (.int k (if n < m then n else m))),[])
  | _,_=>Q.no
 | .max x y=>do
  let a ←rd x
  let b ←rd y
  match a,b with
  | .one (.d (.int k m)),.one (.d (.int _ n))=>pure (.one (.d (.int k (if n > m then n else m))),[])
  | _,_=>Q.no
 | .call f args=>do
  let vf ←rd f
  match vf with
  | .one (.fn n first cap)=>do
   Q.guard (zQ n)
   let (vs,ws) ←ye [] args
   yS Cl dst n (first.map .one++vs++cap.map .one) ws
  | _=>Q.no
 | .RO _=>pure (.one .fm,[])
 | .Ts x=>do
  let v ←rd x
  match v with
  | .one (.view pl g sz off len)=>do
   Q.guard (!(len==0)&&off==0)
   pure (.one (.eE pl g sz 0 0),[])
  | _=>Q.no
 | .T' x n=>do
  let v ←rd x
  let vn ←rd n
  let n ←Q.dr (asNat vn)
  match v with
  | .one (.eE pl g sz i c)=>do
   let (e,x0,rows) ←ju [] pl g sz
   Q.guard (sz==1&&i==0&&c==0&&n==rows.length && !(n==0)&&decide (n≤140737488355328))
   let s ←Q.dr (kA rows)
   pure (.one (.d (.str s)),nj [] pl.k (sN e.v pl x0))
  | _=>Q.no
 | .RP=>do
  let e ←Q.at_ (.b (.g dst) 0)
  let n ←Q.at_ (.r (.g dst))
  Q.guard (decide (cj n.v≤1))
  pure (.one (.gi dst (e.g+1)),[{ k:=.b (.g dst) 0,v:=.one (.mp (.sl (.im false) 2 [])) },{ k:=.r (.g dst),v:=fx 1 }])
 | .RM m k=>do
  let v ←rd m
  let s ←rd k
  match v,s with
  | .one (.gi i g),.one (.d (.str s))=>do
   let e ←Q.at_ (.b (.g i) 0)
   match e.v with
   | .one (.mp (.sl _ _ rows))=>do
    Q.guard (e.g==g)
    pure (.one (.d (.bool (qv rows s))),[])
   | _=>Q.no
  | _,_=>Q.no
 | .RT m k x=>do
  let v ←rd m
  let s ←rd k
  let b ←rd x
  match v,s,b with
  | .one (.gi i g),.one (.d (.str s)),.one (.d (.bool b))=>do
   let e ←Q.at_ (.b (.g i) 0)
   match e.v with
   | .one (.mp (.sl _ _ rows))=>do
    Q.guard (e.g==g)
    pure (.aq [],[{ k:=.b (.g i) 0,v:=.one (.mp (.sl (.im false) 2 (qw rows s b))),keep:=true },{ k:=.a (.b (.g i) 0),v:=V.dead }])
   | _=>Q.no
  | _,_,_=>Q.no
 | .bad=>Q.no
end
section
structure gx where
 dst:Option Nat
 op:pa
 guard:Option (Nat×Bool)
 deriving Inhabited
inductive lY where
 | skip
 | iY (keep:Option (List Nat)) (gc:Bool) (ops:List gx) (draw:Option (List (Nat×Nat)))
 | seq (a b:lY)
 | cond (c:X) (a b:lY)
 | block (id:Nat) (body:lY)
 | loop (body:lY)
 | exit (id:Nat)
 | ret
 deriving Inhabited
inductive RV where
 | slot (t:Nat)
 | cell (t n:Nat) (agg:Bool)
 deriving Inhabited
structure lj where
 C4:Nat
 results:List RV
 body:lY
 forget:Bool
 deriving Inhabited
inductive tH where | norm | exit (id:Nat) | ret
 deriving DecidableEq,Inhabited
def BO:Option (Nat×Bool)→Q Bool
 | none=>pure true
 | some (t,b)=>do
  let e ←Q.at_ (.s t)
  match e.v with
  | .one (.d (.bool x))=>pure (x==b)
  | .aq []=>pure false
  | _=>Q.no
def gq (Cl:bX) (o:gx):Q (List Wr):=do
 let want ←BO o.guard
 if want then do
  let (v,ws) ←bq Cl (o.dst.getD 0) o.op
  match o.dst with
  | some d=>pure ({ k:=.s d,v } :: ws)
  | none=>pure ws
 else
  match o.dst with
  | some d=>pure [{ k:=.s d,v:=.aq [] }]
  | none=>pure []
def mc (Cl:bX):List gx→St→Option St
 | [],S=>some S
 | o::t,S=>((gq Cl o).run S).bind fun ws=>mc Cl t (S.ah ws)
structure lL where
 r:List Key
 w:List Key
def ij (Cl:bX):List gx→St→Option (St×List lL)
 | [],S=>some (S,[])
 | o::t,S=>((gq Cl o).run S).bind fun ws=>
  (ij Cl t (S.ah ws)).map fun x=>(x.1,⟨(gq Cl o).reads S,ws.map (·.k)⟩::x.2)
def lL.apart (x y:lL):Bool:=
 x.w.all (fun k=>!y.r.contains k && !y.w.contains k)&&y.w.all (fun k=>!x.r.contains k)
def Sw (fs:List lL) (ps:List (Nat×Nat)):Bool:=
 ps.all fun (i,j)=>match fs[i]?,fs[j]? with
  | some x,some y=>x.apart y
  | _,_=>false
mutual
def C.refs:C→List Key
 | .view pl .. => [pl.k]
 | .eE pl .. => [pl.k]
 | .c6 pl .. => [pl.k,.a pl.k]
 | .gi i _=>[.b (.g i) 0]
 | .fn _ a b=>Dn a++Dn b
 | _=>[]
def Dn:List C→List Key
 | []=>[]
 | c::t=>c.refs++Dn t
end
mutual
def V.refs:V→List Key
 | .one c=>c.refs
 | .agg cs=>Dn cs
 | .aq vs=>Mq vs
def Mq:List V→List Key
 | []=>[]
 | v::t=>v.refs++Mq t
end
def kept (keep:List Nat):Key→Bool
 | .s i=>keep.contains i
 | .h _=>false
 | _=>true
def allRefs:St→List Key
 | []=>[]
 | (_,e)::t=>e.v.refs++allRefs t
def Mt (refs:List Key) (k:Key) (g:Nat):Nat:=if refs.contains k then g else match k with | .r _=>g | _=>0
def reset (refs:List Key):St→St
 | []=>[]
 | (k,e)::t=>(k,{ e with g:=Mt refs k e.g })::reset refs t
def ZL:mN→Bool
 | ⟨.one .dead,g⟩=>Nat.beq g 0
 | _=>false
def OM (S:St):Key→Bool
 | .a k=>ZL (S.get (.a k))
 | _=>false
def Eu (S:St):St:=S.filter fun x=>!OM S x.1
def St.R7 (keep:List Nat) (S:St):Option St:=
 let S':=S.filter fun x=>kept keep x.1
 if (allRefs S').all (kept keep) then some (Eu (reset (allRefs S') S')) else none
def TB:List Key→List Nat
 | []=>[]
 | .s i::t=>i::TB t
 | _::t=>TB t
def St.looked (keep:List Nat) (S:St):List Nat:=keep++TB (allRefs (S.filter fun x=>kept keep x.1))
def St.norm (keep:List Nat) (S:St):Option St:=S.R7 (S.looked (S.looked keep))
def Key.uw : Key→Option aI
 | .b x _=>some x
 | .r x=>some x
 | _=>none
mutual
def C.wm:C→List aI
 | .ptr r .. => [r]
 | .eE pl .. => pl.k.uw.toList
 | .view pl .. => pl.k.uw.toList
 | .c6 pl .. => pl.k.uw.toList
 | .gi i _=>[.g i]
 | .fn _ a b=>Dr a++Dr b
 | _=>[]
def Dr:List C→List aI
 | []=>[]
 | c::t=>c.wm++Dr t
end
mutual
def V.roots:V→List aI
 | .one c=>c.wm
 | .agg cs=>Dr cs
 | .aq vs=>Mv vs
def Mv:List V→List aI
 | []=>[]
 | v::t=>v.roots++Mv t
end
def Key.akb:Key→Bool
 | .s _=>true
 | _=>false
def TA:St→List aI
 | []=>[]
 | (k,e)::t=>(if k.akb then e.v.roots else [])++TA t
def V0 (live:List aI):St→List aI
 | []=>[]
 | (k,e)::t=>(match k with | .b r _=>if live.contains r then e.v.roots else [] | _=>[])++V0 live t
def Pv (S:St):Nat→List aI→List aI
 | 0,l=>l
 | n+1,l=>Pv S n (l++(V0 l S).filter fun r=>!l.contains r)
def aI.ext:aI→Bool
 | .l _=>false
 | _=>true
def C.oM (c:C):C:=c
def V.oM:V→V
 | .one c=>.one c.oM
 | v=>v
def Ad:St→St
 | []=>[]
 | (k,e)::t=>(k,{ e with v:=e.v.oM })::Ad t
def p7 (live:List aI) (k:Key):Bool:=match k.uw with | some r=>r.ext||live.contains r | none=>true
def St.gc (S:St):Option St:=
 let live:=Pv S 3 (TA S)
 let S':=S.filter fun x=>p7 live x.1
 if S'.all fun x=>x.2.v.roots.all fun r=>r.ext||live.contains r then some (Ad S') else none
def pv (Cl:bX) (keep:Option (List Nat)) (gc:Bool) (ops:List gx) (draw:Option (List (Nat×Nat))) (S:St):Option St:=
 (match keep with | some l=>S.norm l | none=>some S).bind fun S1=>
 (if gc then S1.gc else some S1).bind fun S2=>
 match draw with
 | none=>mc Cl ops S2
 | some []=>mc Cl ops S2
 | some ps=>(ij Cl ops S2).bind fun x=>if Sw x.2 ps then some x.1 else none
def iter (f:St→Option (tH×St)):Nat→St→Option (tH×St)
 | 0,_=>none
 | n+1,S=>(f S).bind fun x=>match x.1 with
  | .norm=>iter f n x.2
  | e=>some (e,x.2)
def yV (S:St) (c:X):Option Bool:=
 ((rd c).run S).bind fun
  | .one (.d (.bool b))=>some b
  | _=>none
def dm (Cl:bX) (n:Nat):lY→St→Option (tH×St)
 | .skip,S=>some (.norm,S)
 | .iY keep gc ops draw,S=>(pv Cl keep gc ops draw S).map fun S'=>(.norm,S')
 | .seq a b,S=>(dm Cl n a S).bind fun x=>match x.1 with
  | .norm=>dm Cl n b x.2
  | e=>some (e,x.2)
 | .cond c a b,S=>(yV S c).bind fun t=>if t then dm Cl n a S else dm Cl n b S
 | .block id b,S=>(dm Cl n b S).map fun x=>(match x.1 with | .exit i=>if i=id then .norm else .exit i | e=>e,x.2)
 | .loop b,S=>iter (dm Cl n b) n S
 | .exit id,S=>some (.exit id,S)
 | .ret,S=>some (.ret,S)
def ga:Nat→List V→St
 | _,[]=>[]
 | i,v::t=>(.s i,⟨v,0⟩)::ga (i+1) t
def A' (r:aI):Nat→List C→St
 | _,[]=>[]
 | c,x::t=>(.b r c,⟨.one x,0⟩)::A' r (c+1) t
def dk:Nat→List (List C)→St
 | _,[]=>[]
 | i,b::t=>(.r (.e i),⟨fx b.length,0⟩)::(A' (.e i) 0 b++dk (i+1) t)
def G0 (ws:List Wr):RV→Q (V×List Wr)
 | .slot t=>tk ws (.t t)
 | .cell t n agg=>do
  let v ←rd (.s t)
  match v with
  | .one (.ptr r g c)=>do
   let e ←Q.at_ (.r r)
   Q.guard (!r.iU&&e.g==g&&decide (c+n≤cj e.v))
   let cs ←wc r c n
   let r' ←lQ agg cs
   pure (r',ws)
  | _=>Q.no
def He (ws:List Wr):List C→Q (List C×List Wr)
 | []=>pure ([],ws)
 | c::cs=>do
  let (c',ws) ←ta ws ⟨.h 0,0,[]⟩ c
  let (ey,ws) ←He ws cs
  pure (c'::ey,ws)
def Tb (r:RV):Q (V×List Wr):=do
 let (v,ws) ←G0 [] r
 match v with
 | .one c=>do let (c',ws) ←ta ws ⟨.h 0,0,[]⟩ c;pure (.one c',ws)
 | .agg cs=>do let (ey,ws) ←He ws cs;pure (.agg ey,ws)
 | .aq _=>Q.no
def wi (ws:List Wr):List RV→Q (List V×List Wr)
 | []=>pure ([],ws)
 | r::t=>do
  let (v,ws) ←G0 ws r
  match v with
  | .one c=>do
   let (c',ws) ←st ws c
   let (vs,ws) ←wi ws t
   pure (.one c'.plain::vs,ws)
  | .agg cs=>do
   let (ey,ws) ←lE ws cs
   let (vs,ws) ←wi ws t
   pure (.agg (ey.map C.plain)::vs,ws)
  | .aq _=>Q.no
def Ta (forget:Bool):List RV→Q (V×List Wr)
 | [r]=>if forget then do
   let (vs,ws) ←wi [] [r]
   match vs with
   | [v]=>pure (v,ws)
   | _=>Q.no
  else Tb r
 | rs=>do let (vs,ws) ←wi [] rs;pure (.aq vs,ws)
def sV:List (aI×Nat)→Option aI
 | []=>none
 | (.l i,_)::_=>some (.l i)
 | _::t=>sV t
def GM (ws:List Wr):Nat→List (List C)→Q (List (List C))
 | _,[]=>pure []
 | i,b::t=>do
  let e ←r5 ws (.r (.e i))
  Q.guard (cj e.v==b.length)
  let cs ←As ws (.e i) 0 b.length
  let r ←GM ws (i+1) t
  pure (cs::r)
def ox:Nat→Nat→List aI
 | _,0=>[]
 | i,n+1=>.e i::ox (i+1) n
mutual
def V.leave (rs:List aI):V→Option V
 | .one c=>(c.dY rs).map .one
 | .agg cs=>(lO rs cs).map .agg
 | .aq vs=>(sQ rs vs).map .aq
def sQ (rs:List aI):List V→Option (List V)
 | []=>some []
 | v::t=>(v.leave rs).bind fun v'=>(sQ rs t).map (v' :: ·)
end
def Aq:List (List C)→List (aI×Nat)
 | []=>[]
 | b::t=>kW b++Aq t
mutual
def V.Ar:V→List (aI×Nat)
 | .one c=>c.vX
 | .agg cs=>kW cs
 | .aq vs=>GQ vs
def GQ:List V→List (aI×Nat)
 | []=>[]
 | v::t=>v.Ar++GQ t
end
def u9 (fn:lj) (bx:List (List C)):Q (V×List (List C)):=do
 let (v,ws) ←Ta fn.forget fn.results
 let out ←GM ws 0 bx
 match sV v.Ar with
 | none=>do
  xK ws (v.Ar++Aq out)
  let v' ←Q.dr (v.leave (ox 0 bx.length))
  let Db ←Q.dr (pF (ox 0 bx.length) out)
  pure (v',Db)
 | some r=>do
  let e ←r5 ws (.r r)
  let cs ←As ws r 0 (cj e.v)
  xK ws (v.Ar++Aq (out++[cs]))
  let v' ←Q.dr (v.leave (ox 0 bx.length++[r]))
  let Db ←Q.dr (pF (ox 0 bx.length++[r]) (out++[cs]))
  pure (v',Db)
def u6 (Cl:bX) (n:Nat) (fn:lj) (args:List V) (bx:List (List C)):Option (V×List (List C)):=
 if args.length≤fn.C4 then
  (dm Cl n fn.body (ga 0 args++dk 0 bx)).bind fun x=>
   match x.1 with
   | .exit _=>none
   | _=>(u9 fn bx).run x.2
 else none
def nH (T:Nat→Option lj) (pK:bX):Nat→bX
 | 0=>fun _ _ _=>none
 | n+1=>fun f args bx=>match T f with
  | some fn=>u6 (nH T pK n) n fn args bx
  | none=>pK f args bx
end
section
inductive DS where
 | int (k:IntKind)
 | bool
 | str
 | im (sz:Nat)
 | own (sz:Nat)
 | sl (sz:Nat)
 | tg (sz:Nat)
 | bu (t:Nat)
 | lk (f:Nat) (l:List (Nat×Nat))
 | ptr (i c:Nat)
 | cz
 | eX
 | dead
 | any
 deriving DecidableEq,Inhabited
abbrev DS.T:DS→Type
 | .int _=>Int
 | .bool=>Bool
 | .str=>List UInt8
 | .im _=>Bool×List (List D)
 | .own _=>List (List D)
 | .sl _=>Tag×List (List D)
 | .tg _=>Tag×List (List D)
 | .bu _=>Unit
 | .lk _ _=>Unit
 | .ptr _ _=>Unit
 | .cz=>Unit
 | .eX=>Unit
 | .dead=>Unit
 | .any=>D
abbrev au:List DS→Type
 | []=>Unit
 | s::t=>s.T×au t
def kq:(s:DS)→D→Option s.T
 | .any,x=>some x
 | .int k,.int k' n=>if k=k' then some n else none
 | .bool,.bool b=>some b
 | .str,.str s=>some s
 | .im sz,.sl (.im b) cp rows=>if sz=cp then some (b,rows) else none
 | .own sz,.sl .own cp rows=>if sz=cp then some rows else none
 | .sl sz,.sl t cp rows=>if sz=cp then some (t,rows) else none
 | .tg sz,.sl t cp rows=>if sz=cp then some (t,rows) else none
 | .dead,.dead=>some ()
 | _,_=>none
def dV:(ds:List DS)→List D→Option (au ds)
 | [],[]=>some ()
 | s::t,x::l=>match kq s x,dV t l with
  | some v,some w=>some (v,w)
  | _,_=>none
 | _,_=>none
def SO {R:Type} (t:Tag) (k:Tag→Option R):Option R:=match t with | .im b=>k (.im b) | .own=>k .own
def Bt {R:Type}:(s:DS)→s.T→(D→Option R)→Option R
 | .int k,n,K=>K (.int k n)
 | .bool,b,K=>K (.bool b)
 | .str,s,K=>K (.str s)
 | .im sz,x,K=>K (.sl (.im x.1) sz x.2)
 | .own sz,x,K=>K (.sl .own sz x)
 | .sl sz,x,K=>SO x.1 fun t=>K (.sl t sz x.2)
 | .tg sz,x,K=>K (.sl x.1 sz x.2)
 | .bu _,_,K=>K .dead
 | .lk _ _,_,K=>K .dead
 | .ptr _ _,_,K=>K .dead
 | .cz,_,K=>K .dead
 | .eX,_,K=>K .dead
 | .dead,_,K=>K .dead
 | .any,x,K=>K x
def ow {R:Type}:(ds:List DS)→au ds→(List D→Option R)→Option R
 | [],_,K=>K []
 | s::t,v,K=>Bt s v.1 fun x=>ow t v.2 fun l=>K (x::l)
def cA {R:Type} (ds:List DS) (l:List D) (K:au ds→Option R):Option R:=match dV ds l with | some v=>K v | none=>none
inductive VS where
 | one (s:DS)
 | fm
 | agg (ds:List DS)
 deriving DecidableEq,Inhabited
abbrev VS.T:VS→Type
 | .one s=>s.T
 | .fm=>Bool
 | .agg ds=>au ds
inductive RS where
 | val (v:VS) (bs:List (List DS))
 | aq (vs:List VS) (bs:List (List DS))
 deriving DecidableEq,Inhabited
abbrev yK:List VS→Type
 | []=>Unit
 | v::t=>v.T×yK t
abbrev yH:List (List DS)→Type
 | []=>Unit
 | b::t=>au b×yH t
abbrev RS.T:RS→Type
 | .val v bs=>v.T×yH bs
 | .aq vs bs=>yK vs×yH bs
abbrev EJ:Nat:=999999
def wX:List (Nat×Nat)→List C→Bool
 | [],[]=>true
 | x::l,.ptr (.e i) g c::t=>Nat.beq x.1 i&&(Nat.beq g 0&&(Nat.beq x.2 c&&(!(Nat.beq i EJ)&&wX l t)))
 | x::l,.fn n [] []::t=>Nat.beq x.1 EJ&&(Nat.beq x.2 n&&wX l t)
 | _,_=>false
def Ip (x:Nat×Nat):C:=match Nat.beq x.1 EJ with
 | true=>.fn x.2 [] []
 | false=>.ptr (.e x.1) 0 x.2
def wY:List (Nat×Nat)→List C
 | []=>[]
 | x::l=>Ip x::wY l
def Iq:List C→Option (List (Nat×Nat))
 | []=>some []
 | .fn n [] []::t=>match Iq t with
  | some l=>some ((EJ,n)::l)
  | none=>none
 | .ptr (.e i) _ c::t=>match Iq t with
  | some l=>some ((i,c)::l)
  | none=>none
 | _::_=>none
def u3 (s:DS) (c:C):Option s.T:=
 match c with
 | .d x=>kq s x
 | .fn f' [] cap=>match s with
  | .lk f l=>match Nat.beq f f',wX l cap with
   | true,true=>some ()
   | _,_=>none
  | _=>none
 | .ptr (.e i') g c'=>match s with
  | .ptr i c=>match Nat.beq i i',Nat.beq g 0,Nat.beq c c' with
   | true,true,true=>some ()
   | _,_,_=>none
  | _=>none
 | .cz=>match s with
  | .cz=>some ()
  | _=>none
 | .eX=>match s with
  | .eX=>some ()
  | _=>none
 | .bu t'=>match s with
  | .bu t=>if t=t' then some () else none
  | _=>none
 | _=>none
def yX:(ds:List DS)→List C→Option (au ds)
 | [],[]=>some ()
 | s::t,x::l=>match u3 s x,yX t l with
  | some v,some w=>some (v,w)
  | _,_=>none
 | _,_=>none
def w6 {R:Type}:(s:DS)→s.T→(C→Option R)→Option R
 | .bu t,_,K=>K (.bu t)
 | .lk f l,_,K=>K (.fn f [] (wY l))
 | .ptr i c,_,K=>K (.ptr (.e i) 0 c)
 | .cz,_,K=>K .cz
 | .eX,_,K=>K .eX
 | .dead,_,K=>K (.d .dead)
 | .int k,v,K=>K (.d (.int k v))
 | .bool,v,K=>K (.d (.bool v))
 | .str,v,K=>K (.d (.str v))
 | .im sz,x,K=>K (.d (.sl (.im x.1) sz x.2))
 | .own sz,x,K=>K (.d (.sl .own sz x))
 | .sl sz,x,K=>SO x.1 fun t=>K (.d (.sl t sz x.2))
 | .tg sz,x,K=>K (.d (.sl x.1 sz x.2))
 | .any,x,K=>K (.d x)
def pn:(s:VS)→V→Option s.T
 | .one s,.one c=>u3 s c
 | .fm,.one .fS=>some true
 | .fm,.one .fm=>some false
 | .agg ds,.agg cs=>match mR cs with | some l=>dV ds l | none=>none
 | _,_=>none
def yY:(ss:List VS)→List V→Option (yK ss)
 | [],[]=>some ()
 | s::t,x::l=>match pn s x,yY t l with
  | some v,some w=>some (v,w)
  | _,_=>none
 | _,_=>none
def tN {R:Type}:(ds:List DS)→au ds→(List C→Option R)→Option R
 | [],_,K=>K []
 | s::t,v,K=>w6 s v.1 fun x=>tN t v.2 fun l=>K (x::l)
def sc:(ss:List (List DS))→List (List C)→Option (yH ss)
 | [],[]=>some ()
 | s::t,x::l=>match yX s x,sc t l with
  | some v,some w=>some (v,w)
  | _,_=>none
 | _,_=>none
def ig:(s:RS)→V×List (List C)→Option s.T
 | .val v bs,(x,out)=>match pn v x,sc bs out with
  | some a,some b=>some (a,b)
  | _,_=>none
 | .aq vs bs,(.aq xs,out)=>match yY vs xs,sc bs out with
  | some a,some b=>some (a,b)
  | _,_=>none
 | _,_=>none
def sd {R:Type}:(s:VS)→s.T→(V→Option R)→Option R
 | .one s,x,K=>w6 s x fun y=>K (.one y)
 | .fm,b,K=>GU b fun t=>match t with | true=>K (.one .fS) | false=>K (.one .fm)
 | .agg ds,x,K=>ow ds x fun l=>K (.agg (l.map .d))
def tO {R:Type}:(ss:List VS)→yK ss→(List V→Option R)→Option R
 | [],_,K=>K []
 | s::t,x,K=>sd s x.1 fun v=>tO t x.2 fun l=>K (v::l)
def po {R:Type}:(ss:List (List DS))→yH ss→(List (List C)→Option R)→Option R
 | [],_,K=>K []
 | s::t,x,K=>tN s x.1 fun l=>po t x.2 fun u=>K (l::u)
def qV {R:Type}:(s:RS)→s.T→(V×List (List C)→Option R)→Option R
 | .val v bs,x,K=>sd v x.1 fun a=>po bs x.2 fun b=>K (a,b)
 | .aq vs bs,x,K=>tO vs x.1 fun a=>po bs x.2 fun b=>K (.aq a,b)
def aH {R:Type} (s:RS) (o:Option (V×List (List C))) (K:s.T→Option R):Option R:=
 match o with
 | some x=>match ig s x with | some v=>K v | none=>none
 | none=>none
theorem OI {R:Type} (s:DS) (v:s.T) (K:D→Option R):Bt s v K=(Bt s v some).bind K:=by
 cases s<;>simp only [Bt,Option.bind];case sl sz=>obtain ⟨t,rows⟩:=v;cases t<;>rfl
theorem w7 {R:Type}:(ds:List DS)→(v:au ds)→(K:List D→Option R)→ow ds v K=(ow ds v some).bind K
 | [],_,_=>rfl
 | s::t,v,K=>by
  simp only [ow];rw [OI s v.1,OI s v.1 (fun x=>ow t v.2 fun l=>some (x::l))];cases Bt s v.1 some with
  | none=>rfl
  | some x=>
   simp only [Option.bind];rw [w7 t v.2,w7 t v.2 (fun l=>some (x::l))];cases ow t v.2 some<;>rfl
theorem Br {R:Type} (s:DS) (v:s.T) (K:C→Option R):w6 s v K=(w6 s v some).bind K:=by
 cases s<;>simp only [w6,Option.bind];case sl sz=>obtain ⟨t,rows⟩:=v;cases t<;>rfl
theorem Bu {R:Type} (s:VS) (v:s.T) (K:V→Option R):sd s v K=(sd s v some).bind K:=by
 cases s with
 | one s=>simp only [sd];rw [Br,Br s v (fun y=>some (V.one y))];cases w6 s v some<;>rfl
 | fm=>cases v<;>rfl
 | agg ds=>simp only [sd];rw [w7,w7 ds v (fun l=>some (V.agg (l.map .d)))];cases ow ds v some<;>rfl
theorem Bv {R:Type}:(ss:List VS)→(v:yK ss)→(K:List V→Option R)→tO ss v K=(tO ss v some).bind K
 | [],_,_=>rfl
 | s::t,v,K=>by
  simp only [tO];rw [Bu s v.1,Bu s v.1 (fun x=>tO t v.2 fun l=>some (x::l))];cases sd s v.1 some with
  | none=>rfl
  | some x=>
   simp only [Option.bind];rw [Bv t v.2,Bv t v.2 (fun l=>some (x::l))];cases tO t v.2 some<;>rfl
theorem Bs {R:Type}:(ds:List DS)→(v:au ds)→(K:List C→Option R)→tN ds v K=(tN ds v some).bind K
 | [],_,_=>rfl
 | s::t,v,K=>by
  simp only [tN];rw [Br s v.1,Br s v.1 (fun x=>tN t v.2 fun l=>some (x::l))];cases w6 s v.1 some with
  | none=>rfl
  | some x=>
   simp only [Option.bind];rw [Bs t v.2,Bs t v.2 (fun l=>some (x::l))];cases tN t v.2 some<;>rfl
theorem u4 {R:Type}:(ss:List (List DS))→(v:yH ss)→(K:List (List C)→Option R)→po ss v K=(po ss v some).bind K
 | [],_,_=>rfl
 | s::t,v,K=>by
  simp only [po];rw [Bs s v.1,Bs s v.1 (fun l=>po t v.2 fun u=>some (l::u))];cases tN s v.1 some with
  | none=>rfl
  | some x=>
   simp only [Option.bind];rw [u4 t v.2,u4 t v.2 (fun u=>some (x::u))];cases po t v.2 some<;>rfl
theorem XF {R:Type} (s:RS) (v:s.T) (K:V×List (List C)→Option R):qV s v K=(qV s v some).bind K:=by
 cases s with
 | val s bs=>
  simp only [qV];rw [Bu s v.1,Bu s v.1 (fun a=>po bs v.2 fun b=>some (a,b))];cases sd s v.1 some with
  | none=>rfl
  | some x=>
   simp only [Option.bind];rw [u4,u4 bs v.2 (fun b=>some (x,b))];cases po bs v.2 some<;>rfl
 | aq ss bs=>
  simp only [qV];rw [Bv ss v.1,Bv ss v.1 (fun a=>po bs v.2 fun b=>some (V.aq a,b))];cases tO ss v.1 some with
  | none=>rfl
  | some x=>
   simp only [Option.bind];rw [u4,u4 bs v.2 (fun b=>some (V.aq x,b))];cases po bs v.2 some<;>rfl
def Q.row (ds:List DS) (l:List D):Q (List D):=
 .ou (fun _ k=>cA ds l fun v=>ow ds v k)
  (by intro R k;unfold cA;cases dV ds l with | none=>rfl | some v=>exact w7 ds v k) .ret
def Q.res (s:RS) (o:Option (V×List (List C))):Q (V×List (List C)):=
 .ou (fun _ k=>aH s o fun v=>qV s v k)
  (by
    intro R k
    unfold aH
    cases o with
    | none => rfl
    | some x =>
      simp only
      cases ig s x with
      | none => rfl
      | some v => exact XF s v k) .ret
def sS {α:Type}:List (Nat×α)→Nat→Option α
 | [],_=>none
 | (i,x)::t,n=>match Nat.beq i n with | true=>some x | false=>sS t n
def ae (n:Nat):Int:=n
def bY (n:Int):Option Nat:=if 0≤n then some n.toNat else none
def cd (R:List (List D)) (i c:Nat) (z:D):List (List D):=R.set i ((R.getD i []).set c z)
def whole (R:List (List D)):List (List D):=List.take R.length (List.drop 0 R)
def gd {R:Type} (b:Bool) (x:Option R):Option R:=bif b then x else none
def aN {R:Type} (n:Nat) (x:Option R):Option R:=bif decide (n≤9223372036854775807) then x else none
def rA {R:Type} (ds:List DS) (c n:Nat) (L:List (List D)) (i:Nat) (K:au ds→Option R):Option R:=
 aD L[i]? fun o=>bif decide (n≤(List.drop c o).length) then cA ds (List.take n (List.drop c o)) K else none
def Am {R:Type} (x y:Option R):Option R:=match x with | some r=>some r | none=>y
def cC:(s:DS)→s.T→C
 | .int k,n=>.d (.int k n)
 | .bool,b=>.d (.bool b)
 | .str,s=>.d (.str s)
 | .im sz,x=>.d (.sl (.im x.1) sz x.2)
 | .own sz,x=>.d (.sl .own sz x)
 | .sl sz,x=>.d (.sl x.1 sz x.2)
 | .tg sz,x=>.d (.sl x.1 sz x.2)
 | .bu t,_=>.bu t
 | .lk f l,_=>.fn f [] (wY l)
 | .ptr i c,_=>.ptr (.e i) 0 c
 | .cz,_=>.cz
 | .eX,_=>.eX
 | .dead,_=>.d .dead
 | .any,x=>.d x
def bx:(ds:List DS)→au ds→List C
 | [],_=>[]
 | s::t,v=>cC s v.1::bx t v.2
def T9 (ds:List DS) (c:List C):Option (au ds):=yX ds c
structure iP where
 row:Nat→Option (List DS)
 res:Nat→Option RS
 JO:Nat→Nat→Bool
 no:Nat→Bool
def shD (im:Bool):D→Option DS
 | .int k _=>some (.int k)
 | .bool _=>some .bool
 | .str _=>some .str
 | .sl _ sz _=>some (if im then .im sz else .tg sz)
 | .dead=>some .dead
def AB (im:Nat→Bool):Nat→List C→Option (List DS)
 | _,[]=>some []
 | i,.bu k::t=>match AB (fun _=>false) (i+1) t with
  | some b=>some (.bu k::b)
  | none=>none
 | i,.fn f [] cap::t=>match Iq cap,AB im (i+1) t with
  | some l,some b=>some (.lk f l::b)
  | _,_=>none
 | i,.ptr (.e j) _ c::t=>match AB im (i+1) t with
  | some b=>some (.ptr j c::b)
  | none=>none
 | i,.cz::t=>match AB im (i+1) t with
  | some b=>some (.cz::b)
  | none=>none
 | i,.eX::t=>match AB im (i+1) t with
  | some b=>some (.eX::b)
  | none=>none
 | i,.d x::t=>match shD (im i) x,AB im (i+1) t with
  | some a,some b=>some (a::b)
  | _,_=>none
 | _,_::_=>none
def adb (JO:Nat→Nat→Bool):List (List C)→Option (List (List DS))
 | []=>some []
 | b::t=>match AB (JO b.length) 0 b,adb JO t with
  | some x,some y=>some (x::y)
  | _,_=>none
def RS.aq3:RS→List (List DS)→RS
 | .val v _,bs=>.val v bs
 | .aq vs _,bs=>.aq vs bs
def Ds (an:iP) (dst:Nat) (l:List D):Q (List D):=
 match an.row dst with
 | some ds=>Q.row ds l
 | none=>pure l
def RS.boxes:RS→List (List DS)
 | .val _ bs=>bs
 | .aq _ bs=>bs
def S9 (an:iP) (f:Nat) (bs:List (List C)) (o:Option (V×List (List C))):Q (V×List (List C)):=
 match an.no f with
 | true=>Q.no
 | false=>match an.res f with
  | some s=>match s.boxes with
   | _::_=>Q.res s o
   | []=>match adb an.JO bs with
    | some b=>Q.res (s.aq3 b) o
    | none=>Q.dr o
  | none=>Q.dr o
def Yd (vs:List V):DS→DS
 | .lk f []=>match Nat.beq f kL,vs with
  | true,.one (.fn _ _ cap)::_=>match Iq cap with
   | some l=>.lk f l
   | none=>.lk f []
  | _,_=>.lk f []
 | d=>d
def aiG (vs:List V):RS→RS
 | .val v bs=>.val v (bs.map fun b=>b.map (Yd vs))
 | .aq v bs=>.aq v (bs.map fun b=>b.map (Yd vs))
def iP.aiM (an:iP) (vs:List V):iP:={ an with res:=fun f=>(an.res f).map (aiG vs) }
def Ol (an:iP) (Cl:bX) (dst:Nat) (f:Nat) (vs:List V) (ws:List Wr):Q (V×List Wr):=do
 xK ws (tu vs)
 let (rs,bs) ←zf ws 40 (rZ [] (tu vs)) 0
 let eR ←Q.dr (ug rs vs)
 let dK ←Q.dr (pF rs bs)
 let (r,out) ←S9 (an.aiM eR) f dK (Cl f eR dK)
 if rs.isEmpty&&r.flat&&out.isEmpty then pure (r,[])
 else do
  let gs ←BJ rs
  if out.length=rs.length then do
   let r' ←Q.dr (r.pJ gs)
   let cI ←Q.dr (ru gs out)
   Q.guard (sR cI bs)
   pure (r',jF rs cI bs ws)
  else do
   let e ←r5 ws (.r (.l dst))
   let EK:=gs++[(.l dst,e.g+1)]
   let r' ←Q.dr (r.pJ EK)
   let cI ←Q.dr (ru EK out)
   let nb:=cI.getD rs.length []
   Q.guard (out.length==rs.length+1&&sR (cI.take rs.length) bs&&(cj e.v==0||cj e.v==nb.length) && !rs.contains (.l dst))
   pure (r',gf (.l dst) 0 nb ({ k:=.r (.l dst),v:=fx nb.length } :: jF rs cI bs ws))
def NV (tc:TC) (op:BinOp) (x y:V):Q D:=
 match x,y with
 | .one (.d (.int k a)),.one (.d (.int k' b))=>
  match op with
  | .quo=>do Q.guard (decide (k=k') && !decide (b=0));pure (.int k (k.wrap (a.tdiv b)))
  | .rem=>do Q.guard (decide (k=k') && !decide (b=0));pure (.int k (a.tmod b))
  | .shl=>do Q.guard (!decide (b < 0));pure (.int k (k.wrap (a * 2 ^ (Min.min b.toNat k.bits))))
  | .shr=>do Q.guard (!decide (b < 0));pure (.int k (a.fdiv (2 ^ (Min.min b.toNat k.bits))))
  | _=>Q.dr (r6 tc op x y)
 | .one (.d (.str a)),.one (.d (.str b))=>
  match op with
  | .add=>do Q.guard (decide (a.length+b.length≤9223372036854775807));pure (.str (a++b))
  | _=>Q.dr (r6 tc op x y)
 | _,_=>Q.dr (r6 tc op x y)
def A4 (sz bytes:Nat) (v:V) (ws:List Wr) (src:List (List D)):Q (V×List Wr):=
 match v with
 | .one (.d (.sl (.im b) cp _))=>do
  Q.guard (fT bytes src false&&(b&&cp==sz&&decide (src.length * bytes≤140737488355328)))
  let e ←Q.ask src.isEmpty
  pure (.one (.d (.sl (if e then .im true else .own) sz src)),ws)
 | v=>wQ sz bytes v ws src
def Ew (pl:Place) (i:Nat):V→Nat→List D→List D→D→List Wr→List Wr
 | v,c,z::t,o::os,x,ws=>
  Ew pl i (v.setCell pl.j (.d (eG x (pl.p++[(i,c)]) z))) (c+1) t os (eG x (pl.p++[(i,c)]) z)
   ({ k:=pl.k,v:=v.setCell pl.j (.d (eG x (pl.p++[(i,c)]) z)),keep:=z.flat&&o.flat } :: { k:=.a pl.k,v:=V.dead } :: ws)
 | _,_,_,_,_,ws=>ws
def TO (ws:List Wr) (P:Place):C→Q (C×List Wr)
 | .view pl g sz off len=>
  match !(pl.k==P.k)&&pl.k.Gw with
  | true=>do
   let (e,x,rows) ←ju ws pl g sz
   Q.guard (off==0&&len==rows.length && !rows.isEmpty)
   pure (.d (.sl .own sz rows),nj ws pl.k (sN e.v pl x))
  | false=>ta ws P (.view pl g sz off len)
 | c=>ta ws P c
def ace (mv:Bool) (ws:List Wr) (P:Place) (y:C):Q (C×List Wr):=if mv then TO ws P y else oV ws P y
def Mg (mv:Bool) (r:aI) (ws:List Wr):Nat→List C→Q (List C×List Wr)
 | _,[]=>pure ([],ws)
 | c,y::t=>do
  let (y',ws) ←ace mv ws ⟨.b r c,0,[]⟩ y
  let (ys,ws) ←Mg mv r ws (c+1) t
  pure (y'::ys,ws)
def Bm:List (Nat×Nat)→List (Nat×Nat)→Bool
 | [],[]=>true
 | (_,c)::p,(_,c')::p'=>Nat.beq c c'&&Bm p p'
 | _,_=>false
def FJ:List (Nat×Nat)→List (Nat×Nat)→Bool
 | [],[]=>true
 | (i,_)::p,(i',_)::p'=>FJ p p'&&Nat.beq i i'
 | _,_=>false
def TH (ws:List Wr) (P:Place):C→Q (C×List Wr)
 | .c6 pl g a sz rows=>match (pl.k==P.k)&&(Nat.beq pl.j P.j&&Bm pl.p P.p) with
  | true=>do
   Q.guard (FJ pl.p P.p)
   settle ws pl g a sz rows
  | false=>oV ws P (.c6 pl g a sz rows)
 | c=>oV ws P c
def I0 (P:Place) (i:Nat) (ws:List Wr):Nat→List C→Q (List D×List Wr)
 | _,[]=>pure ([],ws)
 | c,y::t=>do
  let (y',ws) ←TH ws (P.sub i c) y
  match y' with
  | .d z=>do
   let (zs,ws) ←I0 P i ws (c+1) t
   pure (z::zs,ws)
  | _=>Q.no
def MF:X→Nat
 | .s i=>i
 | .t i=>i
 | _=>0
def sh (an:iP) (Cl:bX) (dst:Nat):pa→Q (V×List Wr)
 | .pick c a b=>do
  let v ←rd c
  match v with
  | .one (.d (.bool t))=>do
   let t ←Q.ask t
   let r ←rd (if t then a else b)
   pure (r,[])
  | _=>Q.no
 | .load n agg x=>do
  let v ←rd x
  match v with
  | .one (.ptr r g c)=>do
   let e ←Q.at_ (.r r)
   Q.guard (!r.iU&&e.g==g&&decide (c+n≤cj e.v))
   let cs ←wc r c n
   let r' ←lQ agg cs
   pure (r',[])
  | .one (.pp cells)=>do
   Q.guard (decide (n≤cells.length))
   let l ←Ds an dst (cells.take n)
   let r' ←lQ agg (l.map .d)
   pure (r',[])
  | .one (.eE pl g sz i c)=>do
   let (_,_,rows) ←ju [] pl g sz
   let row ←Q.dr rows[i]?
   Q.guard (decide (c+n≤row.length))
   let l ←Ds an dst ((row.drop c).take n)
   let r' ←lQ agg (rj pl g i c l)
   pure (r',[])
  | .one (.fn t f l)=>do
   let l ←Q.dr (BF (kL+1) (.fn t f l))
   Q.guard (l.length==n)
   let r' ←lQ agg l
   pure (r',[])
  | _=>Q.no
 | .store mv n x v=>do
  let p ←rd x
  let (vv,ws) ←tk [] v
  Q.guard (vv.cells.length==n)
  match p with
  | .one (.ptr r g c)=>do
   let (cs,ws) ←Mg mv r ws c vv.cells
   let e ←r5 ws (.r r)
   Q.guard (!r.iU&&e.g==g&&decide (c+n≤cj e.v))
   pure (.aq [],gf r c cs ws)
  | .one (.eE pl g sz i c)=>do
   let (zs,ws) ←I0 pl i ws c vv.cells
   let (e,x0,rows) ←ju ws pl g sz
   let row ←Q.dr rows[i]?
   Q.guard (decide (c+n≤row.length)&&zs.length==n)
   let dH ←Ds an (MF x) ((row.drop c).take n)
   Q.guard (dH.length==n&&Hn zs dH)
   pure (.aq [],Ew pl i e.v c zs dH x0 ws)
  | _=>Q.no
 | .bin tc op x y=>do
  let a ←rd x
  let b ←rd y
  let r ←NV tc op a b
  pure (.one (.d r),[])
 | .app sz bytes x y=>do
  let (a,ws) ←tk [] y
  let (src,ws) ←rowsOf sz ws a
  let (v,ws) ←tk ws x
  A4 sz bytes v ws src
 | .A5 sz bytes x y=>do
  let a ←rd y
  match a with
  | .one (.view pl g cp off len)=>do
   let (_,_,rows) ←ju [] pl g cp
   Q.guard (cp==sz&&decide (off+len≤rows.length)&&sj ((rows.drop off).take len))
   let (v,ws) ←tk [] x
   A4 sz bytes v ws ((rows.drop off).take len)
  | _=>do
   let (a,ws) ←tk [] y
   let (src,ws) ←rowsOf sz ws a
   let (v,ws) ←tk ws x
   A4 sz bytes v ws src
 | .A3 x y=>do
  let a ←rd y
  match a with
  | .one (.d (.str s))=>do
   let (v,ws) ←tk [] x
   A4 1 1 v ws (D.da s)
  | _=>Q.no
 | .call f args=>do
  let vf ←rd f
  match vf with
  | .one (.fn n first cap)=>do
   Q.guard (zQ n)
   let (vs,ws) ←ye [] args
   Ol an Cl dst n (first.map .one++vs++cap.map .one) ws
  | _=>Q.no
 | op=>bq Cl dst op
def IV {R:Type}:Nat→Nat→Nat→(Nat→Option R)→Option R
 | 0,_,_,_=>none
 | f+1,i,g,K=>match Nat.beq g i with | true=>K i | false=>IV f (i+1) g K
def fN {R:Type} (g:Nat) (K:Nat→Option R):Option R:=IV 400 0 g K
def IW {R:Type}:aI→(aI→Option R)→Option R
 | .e i,K=>K (.e i)
 | .l i,K=>K (.l i)
 | .g i,K=>K (.g i)
def IU {R:Type}:Key→(Key→Option R)→Option R
 | .s i,K=>K (.s i)
 | .b r c,K=>IW r fun r=>fN c fun c=>K (.b r c)
 | .r r,K=>IW r fun r=>K (.r r)
 | .h i,K=>K (.h i)
 | .a k,K=>IU k fun k=>K (.a k)
def fD {R:Type}:D→(D→Option R)→Option R
 | .int k n,K=>K (.int k n)
 | .bool b,K=>K (.bool b)
 | .str s,K=>K (.str s)
 | .sl t sz rows,K=>K (.sl t sz rows)
 | .dead,K=>K .dead
def fC {R:Type}:C→(C→Option R)→Option R
 | .d x,K=>fD x fun x=>K (.d x)
 | .ptr r g c,K=>IW r fun r=>fN g fun g=>fN c fun c=>K (.ptr r g c)
 | .eE pl g sz i c,K=>fN g fun g=>fN c fun c=>K (.eE pl g sz i c)
 | .view pl g sz off len,K=>fN g fun g=>K (.view pl g sz off len)
 | .c6 pl g a sz rows,K=>fN g fun g=>fN a fun a=>K (.c6 pl g a sz rows)
 | .pp cells,K=>K (.pp cells)
 | .fn f a b,K=>K (.fn f a b)
 | .cz,K=>K .cz
 | .eX,K=>K .eX
 | .fS,K=>K .fS
 | .fm,K=>K .fm
 | .bu t,K=>K (.bu t)
 | .mp x,K=>fD x fun x=>K (.mp x)
 | .gi i g,K=>fN g fun g=>K (.gi i g)
 | .dead,K=>K .dead
def Bz {R:Type}:List C→(List C→Option R)→Option R
 | [],K=>K []
 | c::t,K=>fC c fun c=>Bz t fun t=>K (c::t)
def zb {R:Type}:List V→(List V→Option R)→Option R
 | [],K=>K []
 | .one c::t,K=>fC c fun c=>zb t fun t=>K (.one c::t)
 | .agg cs::t,K=>Bz cs fun cs=>zb t fun t=>K (.agg cs::t)
 | .aq vs::t,K=>zb t fun t=>K (.aq vs::t)
def fV {R:Type}:V→(V→Option R)→Option R
 | .one c,K=>fC c fun c=>K (.one c)
 | .agg cs,K=>Bz cs fun cs=>K (.agg cs)
 | .aq vs,K=>zb vs fun vs=>K (.aq vs)
def IS {R:Type}:List (List C)→(List (List C)→Option R)→Option R
 | [],K=>K []
 | c::t,K=>Bz c fun c=>IS t fun t=>K (c::t)
def X5 {R:Type}:Bool→(Bool→Option R)→Option R
 | true,K=>K true
 | false,K=>K false
def IZ {R:Type}:List Wr→(List Wr→Option R)→Option R
 | [],K=>K []
 | ⟨k,v,b⟩::t,K=>IU k fun k=>fV v fun v=>X5 b fun b=>IZ t fun t=>K (⟨k,v,b⟩::t)
def BA {R:Type}:St→(St→Option R)→Option R
 | [],K=>K []
 | (k,⟨v,g⟩)::t,K=>IU k fun k=>fV v fun v=>fN g fun g=>BA t fun t=>K ((k,⟨v,g⟩)::t)
def IX {R:Type}:St→(St→Option R)→Option R
 | [],K=>K []
 | (k,⟨v,g⟩)::t,K=>fN g fun g=>IX t fun t=>K ((k,⟨v,g⟩)::t)
def runK {α R:Type} (S:St):Q α→List Key→(α→List Key→Option R)→Option R
 | .ret a,rs,K=>K a rs
 | .get k f,rs,K=>runK S (f (S.get k)) (k::rs) K
 | .ou h _ f,rs,K=>h R fun b=>runK S (f b) rs K
 | .no,_,_=>none
def Uq {R:Type} (S:St) (g:Option (Nat×Bool)) (K:Bool→St→List Key→Option R):Option R:=
 match g with
 | none=>K true S []
 | some (t,b)=>match S.get (.s t) with
  | ⟨.one (.d (.bool x)),c⟩=>GU x fun x'=>K (x'==b) (S.put (.s t) ⟨.one (.d (.bool x')),c⟩) [.s t]
  | ⟨.aq [],_⟩=>K false S [.s t]
  | _=>none
def Bx {R:Type} (r:aI):Nat→Nat→St→(St→Option R)→Option R
 | 0,_,S,K=>K S
 | n+1,c,S,K=>match S.get (.b r c) with
  | ⟨.one (.d (.sl t sz rows)),g⟩=>SO t fun t'=>Bx r n (c+1) (S.put (.b r c) ⟨.one (.d (.sl t' sz rows)),g⟩) K
  | _=>Bx r n (c+1) S K
def EE {R:Type} (n:Nat) (v:V) (S:St) (K:St→Option R):Option R:=
 match v with
 | .one (.ptr r _ c)=>Bx r n c S K
 | _=>K S
def O' {R:Type} (op:pa) (S:St) (K:St→Option R):Option R:=
 match op with
 | .load n _ (.s i)=>EE n (S.get (.s i)).v S K
 | .load n _ (.t i)=>EE n (S.get (.s i)).v S K
 | _=>K S
def ED {R:Type}:List RV→St→(St→Option R)→Option R
 | [],S,K=>K S
 | .cell t n _::l,S,K=>EE n (S.get (.s t)).v S fun S=>ED l S K
 | .slot _::l,S,K=>ED l S K
def IP {R:Type} (an:iP) (Cl:bX) (o:gx) (S:St) (K:St→List Key→List Wr→Option R):Option R:=
 Uq S o.guard fun want S rs=>
  match want with
  | true=>O' o.op S fun S=>runK S (sh an Cl (o.dst.getD 0) o.op) rs fun x rs=>
   match o.dst with
   | some d=>K S rs ({ k:=.s d,v:=x.1 } :: x.2)
   | none=>K S rs x.2
  | false=>match o.dst with
   | some d=>K S rs [{ k:=.s d,v:=.aq [] }]
   | none=>K S rs []
def Ez {R:Type} (an:iP) (Cl:bX):List gx→St→(St→Option R)→Option R
 | [],S,K=>K S
 | o::t,S,K=>IP an Cl o S fun S _ ws=>IZ ws fun ws=>IX (S.ah ws) fun S=>Ez an Cl t S K
def EA {R:Type} (an:iP) (Cl:bX):List gx→St→List lL→(St→List lL→Option R)→Option R
 | [],S,fs,K=>K S fs.reverse
 | o::t,S,fs,K=>IP an Cl o S fun S rs ws=>IZ ws fun ws=>IX (S.ah ws) fun S=>EA an Cl t S (⟨rs.reverse,ws.map (·.k)⟩::fs) K
def St.mE (keep:Option (List Nat)) (gc:Bool) (S:St):Option St:=
 (match keep with | some l=>S.norm l | none=>some S).bind fun S1=>if gc then S1.gc else some S1
def OQ {R:Type} (an:iP) (Cl:bX) (ops:List gx) (draw:Option (List (Nat×Nat))) (S:St) (K:St→Option R):Option R:=
 match draw with
 | none=>Ez an Cl ops S K
 | some []=>Ez an Cl ops S K
 | some ps=>EA an Cl ops S [] fun S' fs=>match Sw fs ps with | true=>K S' | false=>none
inductive jD where
 | skip
 | iY (keep:Option (List Nat)) (gc:Bool) (ops:List gx) (draw:Option (List (Nat×Nat)))
 | seq (a b:jD)
 | cond (c:X) (a b:jD)
 | block (id:Nat) (body:jD)
 | loop (id:Nat) (keep:Option (List Nat)) (gc:Bool) (body:jD)
 | join (id:Nat) (keep:Option (List Nat)) (gc:Bool) (a b:jD)
 | exit (id:Nat)
 | ret
 deriving Inhabited
def kF (keep:Option (List Nat)) (gc:Bool):lY→lY
 | .iY _ _ ops draw=>.iY keep gc ops draw
 | .seq a b=>.seq (kF keep gc a) b
 | .block id b=>.block id (kF keep gc b)
 | c=>c
def jD.BY:jD→Bool
 | .iY none false _ _=>true
 | .seq a _=>a.BY
 | .join _ _ _ a _=>a.BY
 | .block _ b=>b.BY
 | _=>false
def eM:jD→lY
 | .skip=>.skip
 | .iY keep gc ops draw=>.iY keep gc ops draw
 | .seq a b=>.seq (eM a) (eM b)
 | .cond c a b=>.cond c (eM a) (eM b)
 | .block id b=>.block id (eM b)
 | .loop _ keep gc b=>.loop (kF keep gc (eM b))
 | .join _ keep gc a b=>.seq (eM a) (kF keep gc (eM b))
 | .exit id=>.exit id
 | .ret=>.ret
abbrev kE (R:Type):=tH→St→Option R
def Dw {R:Type} (f:St→kE R→Option R) (K:kE R):kE R:=fun e S=>
 match e with
 | .norm=>f S K
 | .exit i=>K (.exit i) S
 | .ret=>K .ret S
def NY {R:Type} (id:Nat) (K:kE R):kE R:=fun e S=>
 match e with
 | .norm=>K .norm S
 | .exit i=>match Nat.beq i id with | true=>K .norm S | false=>K (.exit i) S
 | .ret=>K .ret S
def R5 {R:Type} (keep:Option (List Nat)) (gc:Bool) (next:St→Option R) (K:kE R):kE R:=fun e S=>
 match e with
 | .norm=>match S.mE keep gc with | some S1=>BA S1 next | none=>none
 | .exit i=>K (.exit i) S
 | .ret=>K .ret S
def Cq {R:Type} (id:Nat) (f:St→kE R→Option R) (keep:Option (List Nat)) (gc:Bool):Nat→St→kE R→Option R
 | 0,_,_=>none
 | m+1,S,K=>f S (R5 keep gc (fun S1=>Cq id f keep gc m S1 K) K)
def Rf {R:Type} (id:Nat) (f:St→kE R→Option R):Nat→St→kE R→Option R
 | 0,_,_=>none
 | _+1,S,K=>f S K
def Rd {R:Type} (id:Nat) (keep:Option (List Nat)) (gc:Bool) (m:Nat) (f:St→kE R→Option R):St→kE R→Option R:=fun S K=>
 match S.mE keep gc with
 | some S1=>BA S1 fun S1=>Rf id f m S1 K
 | none=>none
def OC {R:Type} (S:St) (c:X) (K:Bool→St→Option R):Option R:=
 match c with
 | .s i=>match S.get (.s i) with
  | ⟨.one (.d (.bool b)),g⟩=>GU b fun t=>K t (S.put (.s i) ⟨.one (.d (.bool t)),g⟩)
  | _=>none
 | c=>runK S (rd c) [] fun v _=>match v with
  | .one (.d (.bool b))=>GU b fun t=>K t S
  | _=>none
def kK {R:Type} (an:iP) (Cl:bX) (n:Nat):jD→St→kE R→Option R
 | .skip,S,K=>K .norm S
 | .iY keep gc ops draw,S,K=>match S.mE keep gc with
  | some S1=>BA S1 fun S1=>OQ an Cl ops draw S1 fun S'=>K .norm S'
  | none=>none
 | .seq a b,S,K=>kK an Cl n a S (Dw (kK an Cl n b) K)
 | .cond c a b,S,K=>OC S c fun t S=>match t with
  | true=>kK an Cl n a S K
  | false=>kK an Cl n b S K
 | .block id b,S,K=>kK an Cl n b S (NY id K)
 | .loop id keep gc b,S,K=>match b.BY with
  | true=>match S.mE keep gc with
   | some S1=>BA S1 fun S1=>Cq id (kK an Cl n b) keep gc n S1 K
   | none=>none
  | false=>none
 | .join id keep gc a b,S,K=>match b.BY with
  | true=>kK an Cl n a S (Dw (Rd id keep gc n (kK an Cl n b)) K)
  | false=>none
 | .exit id,S,K=>K (.exit id) S
 | .ret,S,K=>K .ret S
structure uS where
 C4:Nat
 results:List RV
 body:jD
 forget:Bool
 deriving Inhabited
def uS.fn (k:uS):lj:=⟨k.C4,k.results,eM k.body,k.forget⟩
def Td (results:List RV) (forget:Bool) (bx:List (List C)):kE (V×List (List C)):=fun e S=>
 match e with
 | .exit _=>none
 | _=>ED results S fun S=>runK S (u9 ⟨0,results,.skip,forget⟩ bx) [] fun x _=>fV x.1 fun v=>IS x.2 fun b=>some (v,b)
def Ey (an:iP) (Cl:bX) (n:Nat) (fn:uS) (args:List V) (bx:List (List C)):Option (V×List (List C)):=
 match Nat.ble args.length fn.C4 with
 | true=>kK an Cl n fn.body (ga 0 args++dk 0 bx) (Td fn.results fn.forget bx)
 | false=>none
end
section
inductive bO where
 | bh
 | row (pl:Place) (o:Nat)
 | box (r:aI) (o:Nat)
abbrev aw:=Nat→Option bO
def jA (n:Nat) (fz:Nat×Nat):Prop:=∀j,j < n→¬ (fz.1≤j∧j < fz.2)
def cellOf (rows:List (List D)) (i c:Nat):Option D:=(rows[i]?).bind (·[c]?)
theorem kJ {rows:List (List D)} {i c:Nat} {x:D}:cellOf rows i c=some x↔∃r,rows[i]? = some r∧r[c]? = some x:=by
 unfold cellOf;cases rows[i]?<;>simp
inductive fM (w:World) (L:aw):D→Value→Prop where
 | int {k n}:fM w L (.int k n) (.int k n)
 | bool {b}:fM w L (.bool b) (.bool b)
 | str {s}:fM w L (.str s) (.string ⟨s.toArray⟩)
 | nil {sz}:fM w L (.sl (.im true) sz []) (.slice none 0 0)
 | mD {sz a cap}:fM w L (.sl (.im false) sz []) (.slice (some a) 0 cap)
 | dead {v} (h:v.oneCell'=true):fM w L .dead v
 | pl {sz rows B o cap cur e fz} (val:Nat→Nat→Value) (az:rows≠[]) (bf:0 < sz) (dL:rows.length≤cap) (hL:L B=some .bh)
  (hB:w.heap[B]? = some (.cells cur e fz)) (hlen:∀r∈rows,r.length=sz)
  (hv:∀i c x,cellOf rows i c=some x→cur[o+i * sz+c]? = some (val i c))
  (hr:∀i c x,cellOf rows i c=some x→fM w L x (val i c)) :
  fM w L (.sl (.im false) sz rows) (.slice (some ⟨B,o,none⟩) rows.length cap)
def tJ (rows:List (List D)) (e:Nat):Prop:=(lS rows=false∨rows=[])→e=5
inductive bt (w:World) (L:aw):Place→D→Value→Prop where
 | plain {pl x v} (h:fM w L x v):bt w L pl x v
 | jk {pl sz a}:bt w L pl (.sl .own sz []) (.slice (some a) 0 0)
 | own {pl sz rows B o cap cur e fz} (val:Nat→Nat→Value) (bf:0 < sz) (hL:L B=some (.row pl o))
  (hB:w.heap[B]? = some (.cells cur e fz)) (cU:jA cur.size fz) (hlen:∀r∈rows,r.length=sz)
  (dL:rows.length≤cap) (dG:o+cap * sz≤cur.size)
  (hv:∀i c x,cellOf rows i c=some x→cur[o+i * sz+c]? = some (val i c))
  (hr:∀i c x,cellOf rows i c=some x→bt w L (pl.sub i c) x (val i c)) (hu:tJ rows e) :
  bt w L pl (.sl .own sz rows) (.slice (some ⟨B,o,none⟩) rows.length cap)
theorem fM.vV {w:World} {L:aw} {x:D} {v:Value} (h:fM w L x v):v.oneCell'=true:=by
 cases h<;>first | rfl | assumption
theorem bt.vV {w:World} {L:aw} {pl:Place} {x:D} {v:Value} (h:bt w L pl x v):v.oneCell'=true:=by
 cases h with
 | plain h=>exact h.vV
 | jk=>rfl
 | own=>rfl
def rW (w w':World) (L L':aw):Prop:=∀B,L B=some .bh→L' B=some .bh∧w'.heap[B]? = w.heap[B]?
theorem fM.mono {w w':World} {L L':aw} (fU:rW w w' L L') {x:D} {v:Value} (h:fM w L x v):fM w' L' x v:=by
 induction h with
 | int=>exact .int
 | bool=>exact .bool
 | str=>exact .str
 | nil=>exact .nil
 | mD=>exact .mD
 | dead h=>exact .dead h
 | pl val az bf dL hL hB hlen hv hr ih=>exact .pl val az bf dL (fU _ hL).1 ((fU _ hL).2.trans hB) hlen hv ih
theorem bt.move {w w':World} {L L':aw} (f:Place→Place) (U:Place→Prop)
  (hU:∀q i c,U q→U (q.sub i c)) (hf:∀q i c,U q→f (q.sub i c)=(f q).sub i c)
  (fU:rW w w' L L')
  (de:∀B q o,U q→L B=some (.row q o)→L' B=some (.row (f q) o)∧w'.heap[B]? = w.heap[B]?)
  {pl:Place} {x:D} {v:Value} (h:bt w L pl x v):U pl→bt w' L' (f pl) x v:=by
 induction h with
 | plain h=>exact fun _=>.plain (h.mono fU)
 | jk=>exact fun _=>.jk
 | @own pl sz rows B o cap cur e fz val bf hL hB cU hlen dL dG hv hr dX ih=>
  intro hu;obtain ⟨h1,h2⟩:=de B pl o hu hL;refine .own val bf h1 (h2.trans hB) cU hlen dL dG hv ?_ dX;intro i c x hx;have:=ih i c x hx (hU _ _ _ hu);rwa [hf _ _ _ hu] at this
theorem An:∀r:List (List D),(aW r).length=r.length
 | []=>rfl
 | _::t=>by simp [aW,An t]
theorem abS:∀r:List D,Df r=r.map kV
 | []=>rfl
 | _::t=>by simp [Df,abS t]
theorem Dg:∀r:List (List D),aW r=r.map (·.map kV)
 | []=>rfl
 | _::t=>by simp [aW,Dg t,abS]
theorem Bi (rows:List (List D)) (i c:Nat):cellOf (aW rows) i c=(cellOf rows i c).map kV:=by
 simp only [cellOf,Dg,bS];cases rows[i]? with
 | none=>rfl
 | some r=>simp
theorem fM.aoy {w:World} {L:aw} {x:D} {v:Value} (h:fM w L x v):kV x=x:=by
 cases h<;>simp [kV]
theorem bt.freeze {w w':World} {L L':aw} (U:Place→Prop)
  (hU:∀q i c,U q→U (q.sub i c))
  (fU:rW w w' L L')
  (de:∀B q o,U q→L B=some (.row q o)→L' B=some .bh∧w'.heap[B]? = w.heap[B]?)
  {pl:Place} {x:D} {v:Value} (h:bt w L pl x v):U pl→fM w' L' (kV x) v:=by
 induction h with
 | plain h=>intro _;rw [h.aoy];exact h.mono fU
 | jk=>intro _;simp only [kV,aW];exact .mD
 | @own pl sz rows B o cap cur e fz val bf hL hB cU hlen dL dG hv hr dX ih=>
  intro hu;obtain ⟨h1,h2⟩:=de B pl o hu hL;simp only [kV];rw [←An rows];cases vA:rows with
  | nil=>simp only [aW,jB];exact .mD
  | cons r0 t0=>
   rw [←vA];refine .pl val (by rw [vA];simp [aW]) bf (by rw [An];exact dL) h1 (h2.trans hB) ?_ ?_ ?_
   ·intro r en;rw [Dg] at en;obtain ⟨r1,h3,rfl⟩:=iz.1 en;simpa using hlen r1 h3
   ·intro i c x hx;rw [Bi] at hx;cases hc:cellOf rows i c with
    | none=>simp [hc] at hx
    | some y=>exact hv i c y hc
   ·intro i c x hx;rw [Bi] at hx;cases hc:cellOf rows i c with
    | none=>simp [hc] at hx
    | some y=>
     simp only [hc,fh,ai] at hx;subst hx;exact ih i c y hc (hU _ _ _ hu)
def Place.app (pl:Place) (p:List (Nat×Nat)):Place:={ pl with p:=pl.p++p }
theorem Place.A6 (pl:Place):pl.app []=pl:=by simp [Place.app]
theorem Place.qP (pl:Place) (i c:Nat) (p:List (Nat×Nat)):pl.app ((i,c)::p)=(pl.sub i c).app p:=by simp [Place.app,Place.sub]
theorem Place.Ec (pl:Place) (i c:Nat) (p:List (Nat×Nat)):pl.app (p++[(i,c)])=(pl.app p).sub i c:=by simp [Place.app,Place.sub]
theorem C3 {sz:Nat} {rows:List (List D)} {i c:Nat} {p:List (Nat×Nat)}:eo (.sl .own sz rows) ((i,c)::p)=(cellOf rows i c).bind (eo · p):=by
 simp [eo,cellOf]
theorem Af {x y:D} {i c:Nat} {p:List (Nat×Nat)} (h:eo x ((i,c)::p)=some y):∃sz rows z,x = .sl .own sz rows∧cellOf rows i c=some z∧eo z p=some y:=by
 cases x with
 | sl t sz rows=>
  cases t with
  | own=>
   rw [C3] at h;cases hz:cellOf rows i c with
   | none=>simp [hz] at h
   | some z=>exact ⟨sz,rows,z,rfl,hz,by simpa [hz] using h⟩
  | im b=>simp [eo] at h
 | int=>simp [eo] at h
 | bool=>simp [eo] at h
 | str=>simp [eo] at h
 | dead=>simp [eo] at h
theorem bt.nav {w:World} {L:aw}:∀(p:List (Nat×Nat)) {pl:Place} {x y:D} {v:Value},bt w L pl x v→eo x p=some y→
  ∃u,bt w L (pl.app p) y u
 | [],pl,x,y,v,h,hn=>by
  simp only [eo,ai] at hn;subst hn;rw [Place.A6];exact ⟨v,h⟩
 | (i,c)::p,pl,x,y,v,h,hn=>by
  obtain ⟨sz,rows,z,rfl,hz,hy⟩:=Af hn;rw [Place.qP];cases h with
  | plain h=>cases h
  | jk=>simp [cellOf] at hz
  | own val bf hL hB cU hlen dL dG hv hr dX=>exact bt.nav p (hr i c z hz) hy
theorem bt.nU {w:World} {L:aw} {pl:Place} {sz:Nat} {rows:List (List D)} {v:Value} (h:bt w L pl (.sl .own sz rows) v) :
  (rows=[]∧∃a,v = .slice (some a) 0 0)∨
  ∃B o cap cur e fz,∃val:Nat→Nat→Value,v = .slice (some ⟨B,o,none⟩) rows.length cap∧0 < sz∧L B=some (.row pl o)∧
   w.heap[B]? = some (.cells cur e fz)∧jA cur.size fz∧(∀r∈rows,r.length=sz)∧rows.length≤cap∧o+cap * sz≤cur.size∧
   (∀i c x,cellOf rows i c=some x→cur[o+i * sz+c]? = some (val i c))∧
   (∀i c x,cellOf rows i c=some x→bt w L (pl.sub i c) x (val i c))∧tJ rows e:=by
 cases h with
 | plain h=>cases h
 | jk=>exact .inl ⟨rfl,_,rfl⟩
 | own val bf hL hB cU hlen dL dG hv hr dX=>exact .inr ⟨_,_,_,_,_,_,val,rfl,bf,hL,hB,cU,hlen,dL,dG,hv,hr,dX⟩
theorem Eo {rows:List (List D)} {i c:Nat} {dH:D} (h:cellOf rows i c=some dH) (z:D) (i' c':Nat) :
  cellOf (rows.set i ((rows.getD i []).set c z)) i' c'=if i'=i∧c'=c then some z else cellOf rows i' c':=by
 obtain ⟨r,hr,hc⟩:=kJ.1 h;have hi:i < rows.length:=(cw.1 hr).1;have aS:c < r.length:=(cw.1 hc).1;have hg:rows.getD i []=r:=by rw [kB,hr];rfl
 rw [hg];unfold cellOf;rw [M'];by_cases h1:i=i'
 ·subst h1;simp only [bW,hi,lh,Option.bind_some,M',hr];by_cases h2:c=c'
  ·subst h2;simp [aS]
  ·simp [h2,Ne.symm h2]
 ·simp [h1,Ne.symm h1]
theorem Tv {rows:List (List D)} {sz i c:Nat} {z:D} (hlen:∀r∈rows,r.length=sz):∀r∈rows.set i ((rows.getD i []).set c z),r.length=sz:=by
 intro r hr;by_cases hi:i < rows.length
 ·rcases UX hr with h | h
  ·exact hlen r h
  ·subst h;have hg:rows.getD i []=rows[i]:=by rw [kB,kf hi];rfl
   rw [yB,hg];exact hlen _ (bM hi)
 ·rw [List.set_eq_of_length_le (by omega)] at hr;exact hlen r hr
theorem vM {rows:List (List D)}:lS rows=false↔rows≠[]∧∀r∈rows,tj r=true:=by
 cases rows with
 | nil=>simp [lS]
 | cons r t=>simp [lS]
theorem tJ.set {rows:List (List D)} {e i c:Nat} {dH z:D} (h:tJ rows e) (hc:cellOf rows i c=some dH) (hz:AI z dH=true):tJ (rows.set i ((rows.getD i []).set c z)) e:=by
 intro hn;obtain ⟨r,hr,q7⟩:=kJ.1 hc;have hi:i < rows.length:=(cw.1 hr).1;have hn:lS (rows.set i ((rows.getD i []).set c z))=false:=hn.resolve_right fun e=>by
  have h3:=fX List.length e;rw [yB,jB] at h3;omega
 obtain ⟨h1,h2⟩:=vM.1 hn;have hg:rows.getD i []=r:=by rw [kB,hr];rfl
 refine h (.inl (vM.2 ⟨fun e=>by rw [e] at hi;simp at hi,fun q hq=>?_⟩));obtain ⟨k,hk⟩:=uJ hq;by_cases qk:i=k
 ·subst qk;rw [hr] at hk;simp only [ai] at hk;subst hk;have:=h2 (r.set c z) (by rw [hg];exact ft (by rw [yz hi]));cases r with
  | nil=>simp at q7
  | cons d t=>
   cases t with
   | nil=>
    cases c with
    | zero=>
     simp at q7;subst q7;simp only [List.set,tj] at this ⊢;simp only [AI,this,UH,UG] at hz;exact hz
    | succ c=>simp at q7
   | cons d2 t=>cases c with
    | zero=>simp [tj] at this
    | succ c=>cases c<;>simp [tj] at this
 ·exact h2 q (ft (by rw [qL qk];exact hk))
theorem pz (w:World) (a:Addr) (u:Value) (B:Nat) (h:B≠a.block):(w.setCell a u).heap[B]? = w.heap[B]?:=by
 simp only [World.setCell,AS];rw [aB (fun e=>h e.symm)]
theorem xi (w:World) (B j:Nat) (u:Value) {cur:Array Value} {e:TypeId} {fz:Nat×Nat} (h:w.heap[B]? = some (.cells cur e fz)) :
  (w.setCell ⟨B,j,none⟩ u).heap[B]? = some (.cells (cur.setIfInBounds j u) e fz):=by
 simp [World.setCell,AS,h]
theorem aj8 {sz i c i' c':Nat} (hc:c < sz) (lM:c' < sz) (h:¬ (i'=i∧c'=c)):i * sz+c≠i' * sz+c':=by
 intro e;apply h;have h1:(i * sz+c) / sz=i:=by rw [HM,Nat.mul_add_div (by omega)];rw [Nat.div_eq_of_lt hc];rfl
 have h2:(i' * sz+c') / sz=i':=by rw [HM,Nat.mul_add_div (by omega)];rw [Nat.div_eq_of_lt lM];rfl
 have:i=i':=by rw [←h1,←h2,e]
 subst this;exact ⟨rfl,by omega⟩
theorem oq {rows:List (List D)} {sz i c:Nat} {x:D} (hlen:∀r∈rows,r.length=sz) (h:cellOf rows i c=some x):i < rows.length∧c < sz:=by
 obtain ⟨r,hr,hc⟩:=kJ.1 h;obtain ⟨hi,rfl⟩:=cw.1 hr;refine ⟨hi,?_⟩;rw [←hlen _ (bM hi)];exact (cw.1 hc).1
def bE (t q:Place):Prop:=∃r,q=t.app r
theorem bE.refl (t:Place):bE t t:=⟨[],(Place.A6 t).symm⟩
theorem bE.sub {t q:Place} (h:bE t q) (i c:Nat):bE t (q.sub i c):=by
 obtain ⟨r,rfl⟩:=h;exact ⟨r++[(i,c)],(Place.Ec t i c r).symm⟩
theorem Place.aeY {t:Place} {r r':List (Nat×Nat)} (h:t.app r=t.app r'):r=r':=by
 simpa [Place.app] using h
theorem bE.R8 {t:Place} {i c:Nat}:¬ bE (t.sub i c) t:=by
 rintro ⟨r,h⟩;have:t.p=t.p++[(i,c)]++r:=fX Place.p h;have:=fX List.length this;simp at this
theorem bE.apart {t q:Place} {i c i' c':Nat} (h:bE (t.sub i c) q) (h':bE (t.sub i' c') q):i=i'∧c=c':=by
 obtain ⟨r,rfl⟩:=h;obtain ⟨r',h'⟩:=h';have:t.p++[(i,c)]++r=t.p++[(i',c')]++r':=fX Place.p h';simp only [ek,List.append_cancel_left_eq,List.singleton_append,qK,fL] at this;exact this.1
theorem Ha {sz:Nat} {rows:List (List D)} {i c:Nat} {p:List (Nat×Nat)} {y z:D} (h:cellOf rows i c=some z) :
  eG (.sl .own sz rows) ((i,c)::p) y = .sl .own sz (rows.set i ((rows.getD i []).set c (eG z p y))):=by
 obtain ⟨r,hr,hc⟩:=kJ.1 h;have hg:rows.getD i []=r:=by rw [kB,hr];rfl
 have jV:r.getD c (.bool false)=z:=by rw [kB,hc];rfl
 rw [eG,hg,jV]
theorem bt.set {w:World} {L L':aw} {B o sz i c:Nat} {rows:List (List D)} {dH y:D} {u:Value} (hc:cellOf rows i c=some dH) :
  ∀(p:List (Nat×Nat)) {pl:Place} {x:D} {v:Value},bt w L pl x v→eo x p=some (.sl .own sz rows)→L B=some (.row (pl.app p) o)→
   (∀B' q o',L B'=some (.row q o')→q=pl.app p→B'=B)→
   rW w (w.setCell ⟨B,o+i * sz+c,none⟩ u) L L'→
   (∀B' q o',bE pl q→¬ bE ((pl.app p).sub i c) q→L B'=some (.row q o')→L' B'=some (.row q o'))→
   bt (w.setCell ⟨B,o+i * sz+c,none⟩ u) L' ((pl.app p).sub i c) y u→AI y dH=true→
   bt (w.setCell ⟨B,o+i * sz+c,none⟩ u) L' pl (eG x (p++[(i,c)]) y) v
 | [],pl,x,v,h,hn,hB,q6,fU,de,hy,bp=>by
  simp only [eo,ai] at hn;subst hn;rw [Place.A6] at *;rcases h.nU with ⟨rfl,_⟩ | ⟨B0,o0,cap,cur,e,fz,val,rfl,bf,hL,hH,cU,hlen,dL,dG,hv,hr,dX⟩
  ·simp [cellOf] at hc
  obtain rfl:=q6 B0 pl o0 hL rfl;obtain rfl:o0=o:=by rw [hL] at hB;simpa using hB
  simp only [uL];rw [Ha hc,eG];obtain ⟨hi,eF⟩:=oq hlen hc;have ajB:=Tv (i:=i) (c:=c) (z:=y) hlen;have af:i * sz+c < cap * sz:=by
   have:(i+1) * sz≤cap * sz:=pY _ (by omega);rw [lJ] at this;omega
  have gB:(rows.set i ((rows.getD i []).set c y)).length=rows.length:=yB ..;rw [←gB];refine .own (fun a b=>if a=i∧b=c then u else val a b) bf (de _ _ _ (bE.refl _) bE.R8 hL) (xi w B0 _ u hH) (by simpa using cU) ajB (by rw [gB];exact dL) (by simpa using dG) ?_ ?_ (dX.set hc bp)
  ·intro a b x hx;rw [Eo hc] at hx;by_cases jU:a=i∧b=c
   ·obtain ⟨rfl,rfl⟩:=jU;simp only [and_self,bW];rw [wK];simp only [bW];rw [aJ (by omega)]
   ·simp only [jU,dE] at hx ⊢;obtain ⟨ha,hb⟩:=oq hlen hx;rw [wK,aB]
    ·exact hv a b x hx
    ·have:=aj8 eF hb jU;omega
  ·intro a b x hx;rw [Eo hc] at hx;by_cases jU:a=i∧b=c
   ·obtain ⟨rfl,rfl⟩:=jU;simp only [and_self,bW,ai] at hx ⊢;subst hx;exact hy
   ·simp only [jU,dE] at hx ⊢;refine bt.move id (bE (pl.sub a b)) (fun q i c h=>h.sub i c) (fun _ _ _ _=>rfl) fU ?_ (hr a b x hx) (bE.refl _);intro B' q o' hq fj;have az:¬ bE (pl.sub i c) q:=fun h=>jU ⟨(bE.apart hq h).1,(bE.apart hq h).2⟩
    have q8:bE pl q:=by obtain ⟨r,rfl⟩:=hq;exact ⟨(a,b)::r,(Place.qP pl a b r).symm⟩
    refine ⟨de _ _ _ q8 az fj,pz _ _ _ _ ?_⟩;rintro rfl;rw [hL] at fj;simp only [ai,bO.row.injEq] at fj;rw [←fj.1] at hq;exact bE.R8 hq
 | (a,b)::p,pl,x,v,h,hn,hB,q6,fU,de,hy,bp=>by
  obtain ⟨pP,qG,z,rfl,hz,zL⟩:=Af hn;rcases h.nU with ⟨rfl,_⟩ | ⟨B0,o0,cap,cur,e,fz,val,rfl,bf,hL,hH,cU,hlen,dL,dG,hv,hr,dX⟩
  ·simp [cellOf] at hz
  have ajI:B0≠B:=by
   rintro rfl;rw [hL] at hB;simp only [ai,bO.row.injEq] at hB;have:=fX (fun q:Place=>q.p.length) hB.1;simp [Place.app] at this
  have fF:=Eo hz (eG z (p++[(i,c)]) y);simp only [qJ];rw [Ha hz];have gB:(qG.set a ((qG.getD a []).set b (eG z (p++[(i,c)]) y))).length=qG.length:=yB ..;have QS:∀q,bE (pl.sub a b) q→bE pl q:=by rintro q ⟨r,rfl⟩;exact ⟨(a,b)::r,(Place.qP pl a b r).symm⟩
  have ht:bE (pl.sub a b) ((pl.app ((a,b)::p)).sub i c):=by rw [Place.qP];exact ⟨p++[(i,c)],(Place.Ec _ i c p).symm⟩
  rw [←gB]
  refine .own val bf (de _ _ _ (bE.refl _) ?_ hL) ((pz _ _ _ _ ajI).trans hH) cU (Tv hlen) (by rw [gB]; exact dL) dG ?_ ?_ (dX.set hz (by
    obtain ⟨_, _, _, h7, _⟩ : ∃ (t : Tag) (s : Nat) (R : List (List D)), eG z (p ++ [(i, c)]) y = .sl t s R ∧ True := by
      cases p with
      | nil =>
        simp only [eo, ai] at zL
        subst zL
        exact ⟨_, _, _, rfl, trivial⟩
      | cons x0 p0 =>
        obtain ⟨s1, R1, z1, rfl, _, _⟩ := Af zL
        exact ⟨_, _, _, rfl, trivial⟩
    rw [h7]; rfl))
  ·rintro ⟨r,h1⟩;obtain ⟨r2,h2⟩:=ht;have h3:=fX (fun q:Place=>q.p.length) h1;have h4:=fX (fun q:Place=>q.p.length) h2;simp [Place.app,Place.sub] at h3 h4
  ·intro a' b' x hx;rw [fF] at hx;by_cases jU:a'=a∧b'=b
   ·obtain ⟨rfl,rfl⟩:=jU;exact hv _ _ z hz
   ·simp only [jU,dE] at hx;exact hv _ _ x hx
  ·intro a' b' x hx;rw [fF] at hx;by_cases jU:a'=a∧b'=b
   ·obtain ⟨rfl,rfl⟩:=jU;simp only [and_self,bW,ai] at hx;subst hx;rw [Place.qP] at hB q6 de hy;exact bt.set hc p (hr _ _ z hz) zL hB q6 fU (fun B' q o' h1 h2 h3=>de B' q o' (QS q h1) h2 h3) hy bp
   ·simp only [jU,dE] at hx;refine bt.move id (bE (pl.sub a' b')) (fun q i c h=>h.sub i c) (fun _ _ _ _=>rfl) fU ?_ (hr a' b' x hx) (bE.refl _);intro B' q o' hq fj;have az:¬ bE (pl.sub a b) q:=fun h=>jU ⟨(bE.apart hq h).1,(bE.apart hq h).2⟩
    have qm:¬ bE ((pl.app ((a,b)::p)).sub i c) q:=by
     rintro ⟨r,rfl⟩;apply az;obtain ⟨r2,h2⟩:=ht;rw [h2];exact ⟨r2++r,by simp [Place.app]⟩
    have q8:bE pl q:=by obtain ⟨r,rfl⟩:=hq;exact ⟨(a',b')::r,(Place.qP pl a' b' r).symm⟩
    refine ⟨de _ _ _ q8 qm fj,pz _ _ _ _ ?_⟩;rintro rfl;have:=fj;rw [hB] at this;simp only [ai,bO.row.injEq] at this;apply az;rw [←this.1,Place.qP];exact ⟨p,rfl⟩
theorem bt.subst {w:World} {L L':aw} {z y:D} :
  ∀(p:List (Nat×Nat)) {pl:Place} {x:D} {v:Value},bt w L pl x v→eo x p=some z→
   rW w w L L'→
   (∀B' q o',bE pl q→¬ bE (pl.app p) q→L B'=some (.row q o')→L' B'=some (.row q o'))→
   (∀u,bt w L (pl.app p) z u→bt w L' (pl.app p) y u)→xD y=false→
   bt w L' pl (eG x p y) v
 | [],pl,x,v,h,hn,fU,de,hy,bp=>by
  simp only [eo,ai] at hn;subst hn;rw [Place.A6] at hy;rw [eG];exact hy v h
 | (a,b)::p,pl,x,v,h,hn,fU,de,hy,bp=>by
  obtain ⟨pP,qG,z0,rfl,hz,zL⟩:=Af hn;rcases h.nU with ⟨rfl,_⟩ | ⟨B0,o0,cap,cur,e,fz,val,rfl,bf,hL,hH,cU,hlen,dL,dG,hv,hr,dX⟩
  ·simp [cellOf] at hz
  have fF:=Eo hz (eG z0 p y);rw [Ha hz];have gB:(qG.set a ((qG.getD a []).set b (eG z0 p y))).length=qG.length:=yB ..;have QS:∀q,bE (pl.sub a b) q→bE pl q:=by rintro q ⟨r,rfl⟩;exact ⟨(a,b)::r,(Place.qP pl a b r).symm⟩
  have ht:bE (pl.sub a b) (pl.app ((a,b)::p)):=by rw [Place.qP];exact ⟨p,rfl⟩
  rw [←gB]
  refine .own val bf (de _ _ _ (bE.refl _) ?_ hL) hH cU (Tv hlen) (by rw [gB]; exact dL) dG ?_ ?_ (dX.set hz (by
    have : xD (eG z0 p y) = false := by
      cases p with
      | nil => exact bp
      | cons x0 p0 => obtain ⟨s1, R1, z1, rfl, _, _⟩ := Af zL; rfl
    simp [AI, this]))
  ·rintro ⟨r,h1⟩;have h3:=fX (fun q:Place=>q.p.length) h1;simp [Place.app,Place.sub] at h3
  ·intro a' b' x hx;rw [fF] at hx;by_cases jU:a'=a∧b'=b
   ·obtain ⟨rfl,rfl⟩:=jU;exact hv _ _ z0 hz
   ·simp only [jU,dE] at hx;exact hv _ _ x hx
  ·intro a' b' x hx;rw [fF] at hx;by_cases jU:a'=a∧b'=b
   ·obtain ⟨rfl,rfl⟩:=jU;simp only [and_self,bW,ai] at hx;subst hx;rw [Place.qP] at de hy;exact bt.subst p (hr _ _ z0 hz) zL fU (fun B' q o' h1 h2 h3=>de B' q o' (QS q h1) h2 h3) hy bp
   ·simp only [jU,dE] at hx;refine bt.move id (bE (pl.sub a' b')) (fun q i c h=>h.sub i c) (fun _ _ _ _=>rfl) fU ?_ (hr a' b' x hx) (bE.refl _);intro B' q o' hq fj;have az:¬ bE (pl.sub a b) q:=fun h=>jU ⟨(bE.apart hq h).1,(bE.apart hq h).2⟩
    have qm:¬ bE (pl.app ((a,b)::p)) q:=by
     rintro ⟨r,rfl⟩;apply az;obtain ⟨r2,h2⟩:=ht;rw [h2];exact ⟨r2++r,by simp [Place.app]⟩
    have q8:bE pl q:=by obtain ⟨r,rfl⟩:=hq;exact ⟨(a',b')::r,(Place.qP pl a' b' r).symm⟩
    exact ⟨de _ _ _ q8 qm fj,rfl⟩
end
section
def A1 (w:World) (L:aw) (pl:Place) (sz off len:Nat) (v:Value):Prop:=
 (len=0∧∃a,v = .slice (some a) 0 0)∨
 ∃B o cap cur e fz,v = .slice (some ⟨B,o+off * sz,none⟩) len cap∧0 < sz∧L B=some (.row pl o)∧w.heap[B]? = some (.cells cur e fz)∧
  jA cur.size fz∧len≤cap∧o+off * sz+cap * sz≤cur.size∧(off=0→len=0→e=5)
def p5 (w:World) (L:aw) (pl:Place) (sz:Nat) (rows:List (List D)) (t:Place) (v:Value):Prop:=
 (rows=[]∧∃a,v = .slice (some a) 0 0)∨
 ∃B o cap cur e fz n0,∃val:Nat→Nat→Value,v = .slice (some ⟨B,o,none⟩) rows.length cap∧0 < sz∧(L B=some (.row pl o)∨L B=some (.row t o))∧
  w.heap[B]? = some (.cells cur e fz)∧jA cur.size fz∧(∀r∈rows,r.length=sz)∧rows.length≤cap∧o+cap * sz≤cur.size∧
  (∀i c x,cellOf rows i c=some x→cur[o+i * sz+c]? = some (val i c))∧
  (∀i c x,cellOf rows i c=some x→bt w L ((if i < n0 then pl else t).sub i c) x (val i c))∧tJ rows e
mutual
def C.clean:C→Bool
 | .d (.sl .own _ _)=>false
 | .c6 .. => false
 | .bu _=>false
 | .mp _=>false
 | .fn _ a b=>jm a&&jm b
 | _=>true
def jm:List C→Bool
 | []=>true
 | c::t=>c.clean&&jm t
end
mutual
def V.clean:V→Bool
 | .one c=>c.clean
 | .agg cs=>jm cs
 | .aq vs=>iB vs
def iB:List V→Bool
 | []=>true
 | v::t=>v.clean&&iB t
end
theorem ko:∀{l:List C} {i:Nat} {c:C},jm l=true→l[i]? = some c→c.clean=true
 | [],_,_,_,h=>by simp at h
 | x::t,0,c,h,hc=>by simp only [jm,bK] at h;simp at hc;subst hc;exact h.1
 | x::t,i+1,c,h,hc=>by simp only [jm,bK] at h;exact ko h.2 (by simpa using hc)
theorem Er:∀{l:List V} {i:Nat} {c:V},iB l=true→l[i]? = some c→c.clean=true
 | [],_,_,_,h=>by simp at h
 | x::t,0,c,h,hc=>by simp only [iB,bK] at h;simp at hc;subst hc;exact h.1
 | x::t,i+1,c,h,hc=>by simp only [iB,bK] at h;exact Er h.2 (by simpa using hc)
def HQ (x:D) (es:Array MapEntry):Prop:=
 ∃(b:Bool) (rows:List (List D)) (l:List (List UInt8×Bool)),x = .sl (.im b) 2 rows∧rows=l.map (fun p=>[.str p.1,.bool p.2])∧es.toList.map (fun e=>(e.key,e.val))=l.map (fun p=>(Value.string ⟨p.1.toArray⟩,Value.bool p.2))
def Key.aT:Key→Bool
 | .s _=>true
 | .b _ _=>true
 | _=>false
def Vl (len:Nat) (v:Value):Prop:=∃b c,v = .slice b len c∧len≤c∧b.isSome=true
section
variable (nm:FuncId→Option Nat) (w:World) (L:aw) (γ:Key→Nat)
inductive aG:Key→Nat→C→Value→Prop where
 | d {k j x v} (h:bt w L ⟨k,j,[]⟩ x v):aG k j (.d x) v
 | ptr {k j r g c v} (hv:∃ad,v = .pointer (some ad)) (hg:g≤γ (.r r))
  (h:g=γ (.r r)→∃B o,L B=some (.box r o)∧v = .pointer (some ⟨B,o+c,none⟩)):aG k j (.ptr r g c) v
 | eE {k j pl g sz i c v} (hv:∃ad,v = .pointer (some ad)) (hh:pl.k.aT=true) (hg:g≤γ pl.k)
  (h:g=γ pl.k→∃B o,L B=some (.row pl o)∧v = .pointer (some ⟨B,o+i * sz+c,none⟩)):aG k j (.eE pl g sz i c) v
 | pp {k j cells B o cur e fz} (hL:L B=some .bh) (hB:w.heap[B]? = some (.cells cur e fz))
  (h:∀q x,cells[q]? = some x→∃u,cur[o+q]? = some u∧fM w L x u):aG k j (.pp cells) (.pointer (some ⟨B,o,none⟩))
 | view {k j pl g sz off len v} (hv:Vl len v) (hh:pl.k.aT=true) (hg:g≤γ pl.k) (h:g=γ pl.k→A1 w L pl sz off len v):aG k j (.view pl g sz off len) v
 | c6 {k j pl g a sz rows v} (hv:v.oneCell'=true) (hh:pl.k.aT=true) (hg:g≤γ pl.k) (ha:a≤γ (.a pl.k))
  (h:g=γ pl.k→a=γ (.a pl.k)→p5 w L pl sz rows ⟨k,j,[]⟩ v):aG k j (.c6 pl g a sz rows) v
 | fn {k j f first cap cF} {fs cs:Array Value} (jG:f < kL) (hf:nm cF=some f) (h1:first.length=fs.size) (h2:cap.length=cs.size) (aS:jm first=true∧jm cap=true)
  (h3:∀(i:Nat) x u,first[i]? = some x→fs[i]? = some u→aG k j x u)
  (h4:∀(i:Nat) x u,cap[i]? = some x→cs[i]? = some u→aG k j x u):aG k j (.fn f first cap) (.func (.func cF) fs cs)
 | fns {k j f l v B o cap cur e fz} (val:Nat→Value) (hf:(f=kL∧v = .slice (some ⟨B,o,none⟩) l.length cap∧l.length≤cap)∨(f=kL+1∧v = .pointer (some ⟨B,o,none⟩)))
  (hL:L B=some .bh) (hB:w.heap[B]? = some (.cells cur e fz)) (aS:jm l=true) (hv:∀i,i < l.length→cur[o+i]? = some (val i))
  (h:∀(i:Nat) x,l[i]? = some x→aG k j x (val i)):aG k j (.fn f [] l) v
 | cz {k j}:aG k j .cz (.pointer none)
 | eX {k j}:aG k j .eX .nilFunc
 | fS {k j}:aG k j .fS .nilIface
 | fm {k j t u}:aG k j .fm (.iface t u)
 | bu {k j t v} (hk:∃r c,k = .b r c) (hv:v.oneCell'=true):aG k j (.bu t) v
 | mp {k j x v} (h:∃B es clock,v = .map (some B)∧L B=some (.row ⟨k,j,[]⟩ 0)∧w.heap[B]? = some (.map es clock)∧HQ x es):aG k j (.mp x) v
 | gi {k j i g v} (hv:∃B,v = .map (some B)) (hg:g≤γ (.b (.g i) 0)) (h:g=γ (.b (.g i) 0)→∃B,L B=some (.row ⟨.b (.g i) 0,0,[]⟩ 0)∧v = .map (some B)):aG k j (.gi i g) v
 | dead {k j v}:aG k j .dead v
inductive bD:Key→V→Value→Prop where
 | one {k c v} (h:aG nm w L γ k 0 c v):bD k (.one c) v
 | agg {k cs} {vs:Array Value} (hl:cs.length=vs.size) (h:∀(j:Nat) c u,cs[j]? = some c→vs[j]? = some u→aG nm w L γ k j c u):bD k (.agg cs) (.agg vs)
 | aq {k vs} {us:Array Value} (hl:vs.length=us.size) (aS:iB vs=true) (h:∀(i:Nat) x u,vs[i]? = some x→us[i]? = some u→bD k x u):bD k (.aq vs) (.tuple us)
end
theorem aG.Pn {nm:FuncId→Option Nat} {w:World} {L:aw} {γ:Key→Nat} {k:Key} {j tag:Nat} {l:List C} {v:Value} (ht:kL≤tag) (h:aG nm w L γ k j (.fn tag [] l) v) :
  ∃B o cap cur e fz,∃val:Nat→Value,((tag=kL∧v = .slice (some ⟨B,o,none⟩) l.length cap∧l.length≤cap)∨(tag=kL+1∧v = .pointer (some ⟨B,o,none⟩)))∧
   L B=some .bh∧w.heap[B]? = some (.cells cur e fz)∧jm l=true∧(∀i,i < l.length→cur[o+i]? = some (val i))∧∀(i:Nat) x,l[i]? = some x→aG nm w L γ k j x (val i):=by
 cases h with
 | fn jG=>exact absurd jG (by omega)
 | fns val hf hL hB aS hv h=>exact ⟨_,_,_,_,_,_,val,hf,hL,hB,aS,hv,h⟩
theorem aG.vV {nm:FuncId→Option Nat} {w:World} {L:aw} {γ:Key→Nat} {k:Key} {j:Nat} {c:C} {v:Value} (h:aG nm w L γ k j c v) (hc:c≠.dead):v.oneCell'=true:=by
 cases h with
 | d h=>exact h.vV
 | ptr hv=>obtain ⟨ad,rfl⟩:=hv;rfl
 | eE hv=>obtain ⟨ad,rfl⟩:=hv;rfl
 | pp=>rfl
 | view hv=>obtain ⟨b,c,rfl,_⟩:=hv;rfl
 | c6 hv=>exact hv
 | fn=>rfl
 | fns val hf=>rcases hf with ⟨_,rfl,_⟩ | ⟨_,rfl⟩<;>rfl
 | cz=>rfl
 | eX=>rfl
 | fS=>rfl
 | fm=>rfl
 | bu hk hv=>exact hv
 | mp h=>obtain ⟨B,es,clock,rfl,_⟩:=h;rfl
 | gi hv=>obtain ⟨B,rfl⟩:=hv;rfl
 | dead=>exact absurd rfl hc
structure Step (w w':World) (L L':aw) (γ γ':Key→Nat):Prop where
 bh:rW w w' L L'
 dP:∀k,γ k≤γ' k
 view:∀B q o,q.k.aT=true→γ' q.k=γ q.k→L B=some (.row q o)→L' B=some (.row q o)∧
  ∀cur e fz,w.heap[B]? = some (.cells cur e fz)→∃dQ:Array Value,w'.heap[B]? = some (.cells dQ e fz)∧dQ.size=cur.size
 app:∀B q o,q.k.aT=true→γ' q.k=γ q.k→γ' (.a q.k)=γ (.a q.k)→L B=some (.row q o)→w'.heap[B]? = w.heap[B]?
 box:∀B r o,γ' (.r r)=γ (.r r)→L B=some (.box r o)→L' B=some (.box r o)
theorem A1.step {w w':World} {L L':aw} {γ γ':Key→Nat} (hs:Step w w' L L' γ γ') {pl:Place} {sz off len:Nat} {v:Value}
  (hh:pl.k.aT=true) (hk:γ' pl.k=γ pl.k) (h:A1 w L pl sz off len v):A1 w' L' pl sz off len v:=by
 rcases h with h | ⟨B,o,cap,cur,e,fz,rfl,bf,hL,hB,cU,hc,hr,h8⟩
 ·exact .inl h
 ·obtain ⟨h1,h2⟩:=hs.view B pl o hh hk hL;obtain ⟨dQ,h3,h4⟩:=h2 _ _ _ hB;exact .inr ⟨B,o,cap,dQ,e,fz,rfl,bf,h1,h3,by rw [h4];exact cU,hc,by rw [h4];exact hr,h8⟩
def Place.at (q:Place) (k:Key) (j:Nat):Place:=⟨k,j,q.p⟩
theorem p5.step {w w':World} {L L':aw} {γ γ':Key→Nat} (hs:Step w w' L L' γ γ') {pl:Place} {k k':Key} {j j':Nat} {sz:Nat} {rows:List (List D)} {v:Value}
  (hh:pl.k.aT=true) (hk:γ' pl.k=γ pl.k) (ha:γ' (.a pl.k)=γ (.a pl.k))
  (ht:∀B q o,q.k=k→q.j=j→L B=some (.row q o)→L' B=some (.row (q.at k' j') o)∧w'.heap[B]? = w.heap[B]?)
  (h:p5 w L pl sz rows ⟨k,j,[]⟩ v):p5 w' L' pl sz rows ⟨k',j',[]⟩ v:=by
 rcases h with h | ⟨B,o,cap,cur,e,fz,n0,val,rfl,bf,hL,hB,cU,hlen,hc,hr,hv,hd,dX⟩
 ·exact .inl h
 ·have dq:∀i c x,cellOf rows i c=some x→bt w' L' ((if i < n0 then pl else ⟨k',j',[]⟩).sub i c) x (val i c):=by
   intro i c x hx;have h0:=hd i c x hx;by_cases hi:i < n0
   ·rw [aJ hi] at h0 ⊢;refine bt.move id (fun q=>q.k=pl.k) (fun _ _ _ h=>h) (fun _ _ _ _=>rfl) hs.bh ?_ h0 rfl;intro B q o hq hL;have vz:γ' q.k=γ q.k:=by rw [hq];exact hk
    have JD:γ' (.a q.k)=γ (.a q.k):=by rw [hq];exact ha
    have Zm:q.k.aT=true:=by rw [hq];exact hh
    exact ⟨(hs.view B q o Zm vz hL).1,hs.app B q o Zm vz JD hL⟩
   ·rw [aB hi] at h0 ⊢;exact bt.move (fun q=>q.at k' j') (fun q=>q.k=k∧q.j=j) (fun _ _ _ h=>h) (fun _ _ _ _=>rfl) hs.bh (fun B q o hq hL=>ht B q o hq.1 hq.2 hL) h0 ⟨rfl,rfl⟩
  rcases hL with hL | hL
  ·exact .inr ⟨B,o,cap,cur,e,fz,n0,val,rfl,bf,.inl (hs.view B pl o hh hk hL).1,(hs.app B pl o hh hk ha hL).trans hB,cU,hlen,hc,hr,hv,dq,dX⟩
  ·have:=ht B _ o rfl rfl hL;exact .inr ⟨B,o,cap,cur,e,fz,n0,val,rfl,bf,.inr this.1,this.2.trans hB,cU,hlen,hc,hr,hv,dq,dX⟩
theorem aG.step {nm:FuncId→Option Nat} {w w':World} {L L':aw} {γ γ':Key→Nat} (hs:Step w w' L L' γ γ') {k k':Key} {j j':Nat}
  (kv:∀B q o,q.k=k→q.j=j→L B=some (.row q o)→L' B=some (.row (q.at k' j') o)∧w'.heap[B]? = w.heap[B]?)
  {c:C} {v:Value} (h:aG nm w L γ k j c v) (hkk:(∃r c,k = .b r c)→∃r c,k' = .b r c:=by first | exact fun h=>h | exact fun _=>⟨_,_,rfl⟩ | (rintro ⟨r,c,h⟩;cases h;done)):aG nm w' L' γ' k' j' c v:=by
 induction h with
 | d h=>
  refine .d ?_;exact bt.move (fun q=>q.at k' j') (fun q=>q.k=_∧q.j=_) (fun _ _ _ h=>h) (fun _ _ _ _=>rfl) hs.bh (fun B q o hq hL=>kv B q o hq.1 hq.2 hL) h ⟨rfl,rfl⟩
 | @ptr r g c v hv hg h=>
  refine .ptr hv (jd hg (hs.dP _)) ?_;intro he;have:γ' (.r r)=γ (.r r):=uN (he▸hg) (hs.dP _);obtain ⟨B,o,h1,h2⟩:=h (he.trans this);exact ⟨B,o,hs.box B r o this h1,h2⟩
 | @eE pl g sz i c v hv hh hg h=>
  refine .eE hv hh (jd hg (hs.dP _)) ?_;intro he;have:γ' pl.k=γ pl.k:=uN (he▸hg) (hs.dP _);obtain ⟨B,o,h1,h2⟩:=h (he.trans this);exact ⟨B,o,(hs.view B pl o hh this h1).1,h2⟩
 | pp hL hB h=>
  refine .pp (hs.bh _ hL).1 ((hs.bh _ hL).2.trans hB) ?_;intro q x hx;obtain ⟨u,h1,h2⟩:=h q x hx;exact ⟨u,h1,h2.mono hs.bh⟩
 | @view pl g sz off len v hv hh hg h=>
  refine .view hv hh (jd hg (hs.dP _)) ?_;intro he;have:γ' pl.k=γ pl.k:=uN (he▸hg) (hs.dP _);exact (h (he.trans this)).step hs hh this
 | @c6 pl g a sz rows v hv hh hg ha h=>
  refine .c6 hv hh (jd hg (hs.dP _)) (jd ha (hs.dP _)) ?_;intro he YE;have h1:γ' pl.k=γ pl.k:=uN (he▸hg) (hs.dP _);have h2:γ' (.a pl.k)=γ (.a pl.k):=uN (YE▸ha) (hs.dP _);exact (h (he.trans h1) (YE.trans h2)).step hs hh h1 h2 kv
 | fn jG hf h1 h2 aS h3 h4 sL sM=>exact .fn jG hf h1 h2 aS sL sM
 | fns val hf hL hB aS hv h ih=>exact .fns val hf (hs.bh _ hL).1 ((hs.bh _ hL).2.trans hB) aS hv ih
 | cz=>exact .cz
 | eX=>exact .eX
 | fS=>exact .fS
 | fm=>exact .fm
 | bu hk hv=>exact .bu (hkk hk) hv
 | mp h=>
  obtain ⟨B,es,clock,rfl,h1,h2,h3⟩:=h;obtain ⟨g1,g2⟩:=kv B _ 0 rfl rfl h1;exact .mp ⟨B,es,clock,rfl,g1,g2.trans h2,h3⟩
 | @gi i g v hv hg h=>
  refine .gi hv (jd hg (hs.dP _)) ?_;intro he;have:γ' (.b (.g i) 0)=γ (.b (.g i) 0):=uN (he▸hg) (hs.dP _);obtain ⟨B,h1,h2⟩:=h (he.trans this);exact ⟨B,(hs.view B _ 0 rfl this h1).1,h2⟩
 | dead=>exact .dead
theorem bD.step {nm:FuncId→Option Nat} {w w':World} {L L':aw} {γ γ':Key→Nat} (hs:Step w w' L L' γ γ') {k k':Key}
  (kv:∀B q o,q.k=k→L B=some (.row q o)→L' B=some (.row (q.at k' q.j) o)∧w'.heap[B]? = w.heap[B]?)
  {x:V} {v:Value} (h:bD nm w L γ k x v) (hkk:(∃r c,k = .b r c)→∃r c,k' = .b r c:=by first | exact fun h=>h | exact fun _=>⟨_,_,rfl⟩ | (rintro ⟨r,c,h⟩;cases h;done)):bD nm w' L' γ' k' x v:=by
 induction h with
 | one h=>exact .one (h.step hs (fun B q o h1 h2 hL=>by have:=kv B q o h1 hL;rwa [h2] at this) hkk)
 | agg hl h=>exact .agg hl (fun j c u hc hu=>(h j c u hc hu).step hs (fun B q o h1 h2 hL=>by have:=kv B q o h1 hL;rwa [h2] at this) hkk)
 | aq hl aS h ih=>exact .aq hl aS ih
theorem aG.any {nm:FuncId→Option Nat} {w:World} {L:aw} {γ:Key→Nat} {k:Key} {j:Nat} {c:C} {v:Value} (h:aG nm w L γ k j c v)
  (hc:c.clean=true) (k':Key) (j':Nat):aG nm w L γ k' j' c v:=by
 induction h with
 | @d x v h=>
  cases h with
  | plain h=>exact .d (.plain h)
  | jk=>simp [C.clean] at hc
  | own=>simp [C.clean] at hc
 | ptr hv hg h=>exact .ptr hv hg h
 | eE hv hh hg h=>exact .eE hv hh hg h
 | pp hL hB h=>exact .pp hL hB h
 | view hv hh hg h=>exact .view hv hh hg h
 | c6=>simp [C.clean] at hc
 | fn jG hf h1 h2 aS h3 h4 sL sM=>
  exact .fn jG hf h1 h2 aS (fun i x u hx hu=>sL i x u hx hu (ko aS.1 hx)) (fun i x u hx hu=>sM i x u hx hu (ko aS.2 hx))
 | fns val hf hL hB aS hv h ih=>exact .fns val hf hL hB aS hv (fun i x hx=>ih i x hx (ko aS hx))
 | cz=>exact .cz
 | eX=>exact .eX
 | fS=>exact .fS
 | fm=>exact .fm
 | bu=>simp [C.clean] at hc
 | mp=>simp [C.clean] at hc
 | gi hv hg h=>exact .gi hv hg h
 | dead=>exact .dead
theorem aG.uX {nm:FuncId→Option Nat} {w:World} {L:aw} {γ:Key→Nat} {k:Key} {j:Nat} {c:C} {v:Value} (h:aG nm w L γ k j c v)
  (hc:c.own=false):c.clean=true:=by
 cases h with
 | @d x v h=>
  cases x with
  | sl t sz rows=>cases t<;>simp_all [C.own,C.clean]
  | _=>rfl
 | c6=>simp [C.own] at hc
 | bu=>simp [C.own] at hc
 | mp=>simp [C.own] at hc
 | fn jG hf h1 h2 aS h3 h4=>simp [C.clean,aS.1,aS.2]
 | fns val hf hL hB aS hv h=>simp [C.clean,aS,jm]
 | _=>rfl
theorem bD.any {nm:FuncId→Option Nat} {w:World} {L:aw} {γ:Key→Nat} {k:Key} {x:V} {v:Value} (h:bD nm w L γ k x v)
  (hc:x.clean=true) (k':Key):bD nm w L γ k' x v:=by
 induction h with
 | one h=>exact .one (h.any hc _ _)
 | agg hl h=>exact .agg hl (fun j c u h1 h2=>(h j c u h1 h2).any (ko hc h1) _ _)
 | aq hl aS h ih=>exact .aq hl aS (fun i x u h1 h2=>ih i x u h1 h2 (Er aS h1))
def rV (w:World) (L:aw):Prop:=∀B l,L B=some l→B < w.heap.size
theorem xh {w w':World} {B:Nat} (h:B < w.heap.size) (he:w'.heap[B]? = w.heap[B]?):B < w'.heap.size:=by
 rw [og h] at he;exact (lH.1 he).1
def lZ (L:aw):Prop:=∀B B' pl o o',L B=some (.row pl o)→L B'=some (.row pl o')→B=B'
def D0 (L:aw):Prop:=∀B B' r o o',L B=some (.box r o)→L B'=some (.box r o')→B=B'
def lK (x:C) (B o c:Nat) (e:TypeId) (n:Nat) (v:Value):Prop:=
 match x with
 | .bu t=>o=0∧c=0∧e=t∧n=2∧(v = .pointer none∨v = .pointer (some ⟨B,0,none⟩))
 | _=>True
theorem lK.of {x:C} (h:∀t,x≠.bu t) {B o c:Nat} {e:TypeId} {n:Nat} {v:Value}:lK x B o c e n v:=by
 cases x<;>first | trivial | exact absurd rfl (h _)
def D3 (nm:FuncId→Option Nat) (w:World) (L:aw) (γ:Key→Nat) (r:aI) (c:Nat) (x:C):Prop:=
 match r with
 | .g _=>∃v,aG nm w L γ (.b r c) 0 x v
 | _=>∃B o cur e fz v,L B=some (.box r o)∧w.heap[B]? = some (.cells cur e fz)∧jA cur.size fz∧cur[o+c]? = some v∧aG nm w L γ (.b r c) 0 x v∧lK x B o c e cur.size v
structure aeU (nm:FuncId→Option Nat) (N:Nat) (E:Key→V) (γ:Key→Nat) (a:Act) (w:World) (L:aw):Prop where
 size:a.tmps.size=N
 defers:a.defers=[]
 slot:∀i,bD nm w L γ (.s i) (E (.s i)) (a.tmps.getD i undef)
 cell:∀r c x,E (.b r c) = .one x→x≠.dead→D3 nm w L γ r c x
 kg:∀r c,∃y,E (.b r c) = .one y
 bound:∀r c,cj (E (.r r))≤c→E (.b r c) = .one .dead
 room:∀r,r.iU=false→0 < cj (E (.r r))→∃B o cur e fz,L B=some (.box r o)∧w.heap[B]? = some (.cells cur e fz)∧jA cur.size fz∧o+cj (E (.r r))≤cur.size
 fu:rV w L
 eN:lZ L
 fB:D0 L
def St.E (S:St) (k:Key):V:=(S.get k).v
def St.γ (S:St) (k:Key):Nat:=(S.get k).g
def Rel (nm:FuncId→Option Nat) (N:Nat) (S:St) (a:Act) (w:World) (L:aw):Prop:=aeU nm N S.E S.γ a w L
structure dc (w w':World) (L L':aw):Prop where
 os:w'.os=w.os
 tape:w'.tape=w.tape
 output:w'.output=w.output
 size:w.heap.size≤w'.heap.size
 bh:rW w w' L L'
 none:∀B,B < w.heap.size→L B=none→L' B=none∧w'.heap[B]? = w.heap[B]?
 Bq:∀B i o,L B=some (.box (.e i) o)→L' B=some (.box (.e i) o)
theorem dc.refl (w:World) (L:aw):dc w w L L:=⟨rfl,rfl,rfl,bT _,fun _ h=>⟨h,rfl⟩,fun _ _ h=>⟨h,rfl⟩,fun _ _ _ h=>h⟩
theorem dc.trans {w1 w2 w3:World} {L1 L2 L3:aw} (h:dc w1 w2 L1 L2) (k:dc w2 w3 L2 L3):dc w1 w3 L1 L3:=
 ⟨k.os.trans h.os, k.tape.trans h.tape, k.output.trans h.output, jd h.size k.size,
   fun B hB => ⟨(k.bh B (h.bh B hB).1).1, (k.bh B (h.bh B hB).1).2.trans (h.bh B hB).2⟩,
   fun B af hB => ⟨(k.none B (HK af h.size) (h.none B af hB).1).1, (k.none B (HK af h.size) (h.none B af hB).1).2.trans (h.none B af hB).2⟩, fun B i o hB => k.Bq B i o (h.Bq B i o hB)⟩
theorem St.BM (S:St) (x:Wr) (k:Key):(S.wr x).get k=if x.k=k then ⟨x.v,if x.keep then (S.get x.k).g else (S.get x.k).g+1⟩ else S.get k:=by
 unfold St.wr;rw [St.aiX]
theorem St.ia (S:St) (x:Wr) (k:Key):(S.wr x).E k=if x.k=k then x.v else S.E k:=by
 unfold St.E;rw [St.BM];split<;>rfl
theorem St.jS (S:St) (x:Wr) (k:Key):(S.wr x).γ k=if x.k=k then (if x.keep then S.γ k else S.γ k+1) else S.γ k:=by
 unfold St.γ;rw [St.BM];by_cases h:x.k=k
 ·subst h;simp only [bW]
 ·simp [h]
def Vg (nm:FuncId→Option Nat) (E:Key→V) (γ:Key→Nat) (a:Act) (w:World) (L:aw) (k:Key) (v:V):Prop:=
 match k with
 | .s i=>bD nm w L γ (.s i) v (a.tmps.getD i undef)
 | .b r c=>∃y,v = .one y∧(y≠.dead→c < cj (E (.r r))∧D3 nm w L γ r c y)
 | .r _=>False
 | _=>True
theorem aG.LC {nm:FuncId→Option Nat} {w:World} {L:aw} {γ:Key→Nat} {m j:Nat} {x:C} {v:Value} (h:aG nm w L γ (.h m) j x v):∀t,x≠.bu t:=by
 rintro t rfl;cases h with
 | bu hk=>obtain ⟨r,c,h⟩:=hk;cases h
theorem D3.step {nm:FuncId→Option Nat} {w w':World} {L L':aw} {γ γ':Key→Nat} (hs:Step w w' L L' γ γ') {r:aI} {c:Nat} {x:C}
  (kv:∀B q o,q.k = .b r c→L B=some (.row q o)→L' B=some (.row q o)∧w'.heap[B]? = w.heap[B]?)
  (gW : ∀ B o, L B = some (.box r o) → L' B = some (.box r o) ∧
    ∀ cur e fz, w.heap[B]? = some (.cells cur e fz) → ∃ dQ : Array Value, w'.heap[B]? = some (.cells dQ e fz) ∧ dQ.size = cur.size ∧ dQ[o + c]? = cur[o + c]?)
  (h:D3 nm w L γ r c x):D3 nm w' L' γ' r c x:=by
 have hc:∀v,aG nm w L γ (.b r c) 0 x v→aG nm w' L' γ' (.b r c) 0 x v:=fun v hv=>
  hv.step hs (fun B q o h1 h2 hL => by
    have := kv B q o h1 hL
    have hq : q.at (.b r c) 0 = q := by cases q; simp only [Place.at] at *; subst h1; subst h2; rfl
    rw [hq]; exact this)
 cases r with
 | g i=>obtain ⟨v,hv⟩:=h;exact ⟨v,hc v hv⟩
 | e i=>
  obtain ⟨B,o,cur,e,fz,v,h1,h2,h3,h4,h5,h6⟩:=h;obtain ⟨g1,g2⟩:=gW B o h1;obtain ⟨dQ,g3,g4,g5⟩:=g2 _ _ _ h2;exact ⟨B,o,dQ,e,fz,v,g1,g3,by rw [g4];exact h3,g5.trans h4,hc v h5,by rw [g4];exact h6⟩
 | l i=>
  obtain ⟨B,o,cur,e,fz,v,h1,h2,h3,h4,h5,h6⟩:=h;obtain ⟨g1,g2⟩:=gW B o h1;obtain ⟨dQ,g3,g4,g5⟩:=g2 _ _ _ h2;exact ⟨B,o,dQ,e,fz,v,g1,g3,by rw [g4];exact h3,g5.trans h4,hc v h5,by rw [g4];exact h6⟩
theorem Place.l9 (q:Place):q.at q.k q.j=q:=by cases q;rfl
theorem Rel.write {nm:FuncId→Option Nat} {N:Nat} {S:St} {a a':Act} {w w':World} {L L':aw} (h:Rel nm N S a w L) (x:Wr)
  (bf:a'.tmps.size=a.tmps.size) (hdf:a'.defers=[])
  (vC:∀i,x.k≠.s i→a'.tmps.getD i undef=a.tmps.getD i undef)
  (hs:Step w w' L L' S.γ (S.wr x).γ)
  (kv:∀B q o,q.k≠x.k→q.k.aT=true→L B=some (.row q o)→L' B=some (.row q o)∧w'.heap[B]? = w.heap[B]?)
  (gW : ∀ B r o, x.k ≠ .r r → L B = some (.box r o) → L' B = some (.box r o) ∧
    ∀ cur e fz, w.heap[B]? = some (.cells cur e fz) → ∃ dQ : Array Value, w'.heap[B]? = some (.cells dQ e fz) ∧ dQ.size = cur.size ∧ ∀ c, x.k ≠ .b r c → dQ[o + c]? = cur[o + c]?)
  (hx:Vg nm S.E (S.wr x).γ a' w' L' x.k x.v)
  (hd:rV w' L') (oI:lZ L') (qb:D0 L'):Rel nm N (S.wr x) a' w' L':=by
 refine ⟨bf.trans h.size,hdf,?_,?_,?_,?_,?_,hd,oI,qb⟩
 ·intro i;rw [St.ia];by_cases hk:x.k = .s i
  ·simp only [hk,bW];rw [hk] at hx;exact hx
  ·simp only [hk,dE];rw [vC i hk];refine (h.slot i).step hs ?_;intro B q o hq hL;have:=kv B q o (by rw [hq];exact fun e=>hk e.symm) (by rw [hq];rfl) hL;rwa [←hq,Place.l9]
 ·intro r c y hy jg;have ua:x.k≠.r r:=by intro e;rw [e] at hx;exact hx
  rw [St.ia] at hy;by_cases hk:x.k = .b r c
  ·simp only [hk,bW] at hy;rw [hk] at hx;obtain ⟨y',h1,h2⟩:=hx;rw [hy] at h1;simp only [V.one.injEq] at h1;subst h1;exact (h2 jg).2
  ·simp only [hk,dE] at hy;refine (h.cell r c y hy jg).step hs ?_ ?_
   ·intro B q o hq hL;exact kv B q o (by rw [hq];exact fun e=>hk e.symm) (by rw [hq];rfl) hL
   ·intro B o hL;obtain ⟨h1,h2⟩:=gW B r o ua hL;refine ⟨h1,fun cur e fz hB=>?_⟩;obtain ⟨dQ,h3,h4,h5⟩:=h2 cur e fz hB;exact ⟨dQ,h3,h4,h5 c hk⟩
 ·intro r c;rw [St.ia];by_cases hk:x.k = .b r c
  ·simp only [hk,bW];rw [hk] at hx;obtain ⟨y,h1,_⟩:=hx;exact ⟨y,h1⟩
  ·simp only [hk,dE];exact h.kg r c
 ·intro r c hc;have ua:x.k≠.r r:=by intro e;rw [e] at hx;exact hx
  rw [St.ia] at hc ⊢;simp only [ua,dE] at hc;by_cases hk:x.k = .b r c
  ·simp only [hk,bW];rw [hk] at hx;obtain ⟨y,h1,h2⟩:=hx;by_cases jg:y = .dead
   ·rw [h1,jg]
   ·have:=(h2 jg).1;omega
  ·simp only [hk,dE];exact h.bound r c hc
 ·intro r hg hr;have ua:x.k≠.r r:=by intro e;rw [e] at hx;exact hx
  rw [St.ia] at hr ⊢;simp only [ua,dE] at hr ⊢;obtain ⟨B,o,cur,e,fz,h1,h2,h3,h4⟩:=h.room r hg hr;obtain ⟨g1,g2⟩:=gW B r o ua h1;obtain ⟨dQ,g3,g4,_⟩:=g2 _ _ _ h2;exact ⟨B,o,dQ,e,fz,g1,g3,by rw [g4];exact h3,by rw [g4];exact h4⟩
end
section
theorem BK (S:St):∀(ws:List Wr) (k:Key),(S.ah ws).E k=(p8 ws k).getD (S.E k)
 | [],k=>rfl
 | x::t,k=>by
  simp only [St.ah,St.ia,p8];by_cases h:x.k=k
  ·simp [h]
  ·simp only [h,dE];exact BK S t k
theorem uV (S:St) (ws:List Wr) (k:Key):(r5 ws k).run S=some ⟨(S.ah ws).E k,S.γ k⟩:=by
 rw [BK];unfold r5;simp only [Q.run_bind,Q.uA,Option.bind_some];cases p8 ws k<;>rfl
theorem St.wM (S:St):∀(ws:List Wr) (k:Key),S.γ k≤(S.ah ws).γ k
 | [],_=>bT _
 | x::t,k=>by
  simp only [St.ah,St.jS];have:=wM S t k;by_cases h:x.k=k
  ·subst h;simp only [bW];split<;>omega
  ·simp only [h,dE];exact this
theorem Step.same (w:World) (L:aw) {γ γ':Key→Nat} (h:∀k,γ k≤γ' k):Step w w L L γ γ':=
 ⟨fun _ h=>⟨h,rfl⟩,h,fun _ _ _ _ _ h=>⟨h,fun cur e fz hB=>⟨cur,hB,rfl⟩⟩,fun _ _ _ _ _ _ _=>rfl,fun _ _ _ _ h=>h⟩
theorem St.pZ (S:St) (x:Wr) (k:Key):S.γ k≤(S.wr x).γ k:=by
 rw [St.jS];split<;>(try split)<;>omega
def bump (S:St) (k:Key) (k':Key):Nat:=if k=k' then S.γ k'+1 else S.γ k'
theorem DY (S:St) (k:Key) (v:V):(S.wr { k,v }).γ=bump S k:=by
 funext k';rw [St.jS];unfold bump;by_cases h:k=k'<;>simp [h]
section
variable {nm:FuncId→Option Nat} {N:Nat} {S:St} {a:Act} {w:World} {L:aw}
theorem Rel.Hv (h:Rel nm N S a w L) (x:Wr) (L':aw) (hk:x.keep=false)
  (fU:∀B,L B=some .bh→L' B=some .bh)
  (kv:∀B q o,q.k≠x.k→q.k.aT=true→L B=some (.row q o)→L' B=some (.row q o))
  (gW:∀B r o,L B=some (.box r o)→L' B=some (.box r o))
  (hx:Vg nm S.E (S.wr x).γ a w L' x.k x.v)
  (hd:∀B l,L' B=some l→∃l0,L B=some l0) (oI:lZ L') (qb:∀B r o,L' B=some (.box r o)→L B=some (.box r o)) :
  Rel nm N (S.wr x) a w L':=by
 refine h.write x rfl h.defers (fun _ _=>rfl) ?_ (fun B q o h1 h2 h3=>⟨kv B q o h1 h2 h3,rfl⟩) (fun B r o _ hL=>⟨gW B r o hL,fun cur e fz hB=>⟨cur,hB,rfl,fun _ _=>rfl⟩⟩) hx ?_ oI ?_
 ·refine ⟨fun B hB=>⟨fU B hB,rfl⟩,S.pZ x,?_,fun _ _ _ _ _ _ _=>rfl,fun B r o _ hB=>gW B r o hB⟩;intro B q o hq hγ hL;have:q.k≠x.k:=by
   intro e;rw [St.jS,e] at hγ;simp [hk] at hγ
  exact ⟨kv B q o this hq hL,fun cur e fz hB=>⟨cur,hB,rfl⟩⟩
 ·intro B l hB;obtain ⟨l0,h0⟩:=hd B l hB;exact h.fu B l0 h0
 ·intro B B' r o o' h1 h2;exact h.fB B B' r o o' (qb B r o h1) (qb B' r o' h2)
theorem Rel.kill (h:Rel nm N S a w L) (k:Key) (hk:∀r,k≠.r r):Rel nm N (S.wr { k,v:=V.dead }) a w L:=by
 refine h.Hv { k,v:=V.dead } L rfl (fun _ h=>h) (fun _ _ _ _ _ h=>h) (fun _ _ _ h=>h) ?_ (fun B l h=>⟨l,h⟩) h.eN (fun _ _ _ h=>h);cases k with
 | s i=>exact .one .dead
 | b r c=>exact ⟨.dead,rfl,fun jg=>absurd rfl jg⟩
 | r r=>exact absurd rfl (hk r)
 | h i=>trivial
 | a k=>trivial
def cG (f:Place→Option Place) (L:aw):aw:=fun B=>
 match L B with
 | some (.row q o)=>(f q).map fun q'=>.row q' o
 | x=>x
theorem oS {f:Place→Option Place} {B o:Nat} {q:Place} (h:cG f L B=some (.row q o)):∃q0,L B=some (.row q0 o)∧f q0=some q:=by
 unfold cG at h;split at h
 ·rename_i q0 o0 hL;cases hf:f q0 with
  | none=>simp [hf] at h
  | some q1=>simp only [hf,fh,ai,bO.row.injEq] at h;exact ⟨q0,by rw [hL,h.2],by rw [hf,h.1]⟩
 ·exact absurd h (by rename_i h1;exact h1 q o)
theorem gL {f:Place→Option Place} {B o:Nat} {q q':Place} (h:L B=some (.row q o)) (hf:f q=some q'):cG f L B=some (.row q' o):=by
 simp [cG,h,hf]
theorem jL {f:Place→Option Place} {B:Nat}:cG f L B=some .bh↔L B=some .bh:=by
 unfold cG;split
 ·rename_i q0 o0 hL;cases f q0<;>simp [hL]
 ·rfl
theorem jv {f:Place→Option Place} {B o:Nat} {r:aI}:cG f L B=some (.box r o)↔L B=some (.box r o):=by
 unfold cG;split
 ·rename_i q0 o0 hL;cases f q0<;>simp [hL]
 ·rfl
theorem G2 {f:Place→Option Place} {B:Nat} {l:bO} (h:cG f L B=some l):∃l0,L B=some l0:=by
 unfold cG at h;split at h
 ·rename_i q0 o0 hL;exact ⟨_,hL⟩
 ·exact ⟨_,h⟩
theorem G3 {f:Place→Option Place} (h:lZ L) (hf:∀q q' t B B' o o',f q=some t→f q'=some t→L B=some (.row q o)→L B'=some (.row q' o')→q=q'):lZ (cG f L):=by
 intro B B' pl o o' h1 h2;obtain ⟨q,g1,g2⟩:=oS h1;obtain ⟨q',g3,g4⟩:=oS h2;obtain rfl:=hf q q' pl B B' o o' g2 g4 g1 g3;exact h B B' q o o' g1 g3
def eJ (L:aw):Prop:=∀B q o,L B=some (.row q o)→q.k.aT=true
def qM (L:aw) (m:Nat):Prop:=∀B q o,L B=some (.row q o)→q.k≠.h m
theorem Rel.take (h:Rel nm N S a w L) (i m:Nat) (hm:qM L m) :
  ∃L',Rel nm N (S.wr { k:=.s i,v:=V.dead }) a w L'∧bD nm w L' (S.wr { k:=.s i,v:=V.dead }).γ (.h m) (S.E (.s i)) (a.tmps.getD i undef)∧
   (∀B,L B=some .bh↔L' B=some .bh)∧(∀B q o,q.k≠.s i→q.k≠.h m→(L B=some (.row q o)↔L' B=some (.row q o)))∧(∀B,L' B=none↔L B=none)∧
   (∀B r o,L B=some (.box r o)↔L' B=some (.box r o))∧(∀B q o,L' B=some (.row q o)→q.k≠.s i):=by
 let f:Place→Option Place:=fun q=>if q.k = .s i then some (q.at (.h m) q.j) else some q
 have Qe:∀q,∃t,f q=some t:=fun q=>by by_cases hq:q.k = .s i<;>simp [f,hq]
 have qp:Rel nm N (S.wr { k:=.s i,v:=V.dead }) a w (cG f L):=by
  refine h.Hv { k:=.s i,v:=V.dead } (cG f L) rfl (fun B hB=>jL.2 hB) ?_ (fun B r o hB=>jv.2 hB) (.one .dead) (fun B l hB=>G2 hB) ?_ (fun B r o hB=>jv.1 hB)
  ·intro B q o hq _ hL;exact gL hL (by simp only [f];rw [aB hq])
  ·refine G3 h.eN ?_;intro q q' t B B' o o' h1 h2 hB dA;simp only [f] at h1 h2;by_cases hq:q.k = .s i
   ·rw [aJ hq] at h1;by_cases vy:q'.k = .s i
    ·rw [aJ vy] at h2;rw [←h2] at h1;simp only [ai,Place.at,Place.mk.injEq,lh] at h1;cases q;cases q';simp_all
    ·rw [aB vy] at h2;rw [←h1] at h2;simp only [ai] at h2;exact absurd (by rw [h2];rfl) (hm B' q' o' dA)
   ·rw [aB hq] at h1;by_cases vy:q'.k = .s i
    ·rw [aJ vy] at h2;rw [←h2] at h1;simp only [ai] at h1;exact absurd (by rw [h1];rfl) (hm B q o hB)
    ·rw [aB vy] at h2;rw [←h2] at h1;simpa using h1
 refine ⟨cG f L,qp,?_,fun B=>jL.symm,?_,?_,fun B r o=>jv.symm,?_⟩
 ·refine (h.slot i).step ?_ ?_
  ·refine ⟨fun B hB=>⟨jL.2 hB,rfl⟩,S.pZ _,?_,fun _ _ _ _ _ _ _=>rfl,fun B r o _ hB=>jv.2 hB⟩;intro B q o hq hγ hL;have az:q.k≠.s i:=by intro e;rw [St.jS,e] at hγ;simp at hγ
   exact ⟨gL hL (by simp only [f];rw [aB az]),fun cur e fz hB=>⟨cur,hB,rfl⟩⟩
  ·intro B q o hq hL;exact ⟨gL hL (by simp only [f];rw [aJ hq]),rfl⟩
 ·intro B q o h1 h2;constructor
  ·intro hL;exact gL hL (by simp only [f];rw [aB h1])
  ·intro hL;obtain ⟨q0,h3,h4⟩:=oS hL;simp only [f] at h4;by_cases hq:q0.k = .s i
   ·rw [aJ hq] at h4;simp only [ai] at h4;exact absurd (by rw [←h4];rfl) h2
   ·rw [aB hq] at h4;simp only [ai] at h4;rw [←h4];exact h3
 ·intro B;unfold cG;split
  ·rename_i q0 o0 hL;obtain ⟨t,ht⟩:=Qe q0;simp [hL,ht]
  ·rfl
 ·intro B q o hL;obtain ⟨q0,h3,h4⟩:=oS hL;simp only [f] at h4;by_cases hq:q0.k = .s i
  ·rw [aJ hq] at h4;simp only [ai] at h4;rw [←h4];simp [Place.at]
  ·rw [aB hq] at h4;simp only [ai] at h4;rw [←h4];exact hq
theorem Rel.adn (h:Rel nm N S a w L) {i m:Nat} {x:V} {v:Value} (hi:i < N) (hv:bD nm w L S.γ (.h m) x v) :
  ∃L',Rel nm N (S.wr { k:=.s i,v:=x }) (a.put (some i) v) w L'∧eJ L'∧dc w w L L'∧
   (∀B q o,q.k≠.s i→q.k.aT=true→L B=some (.row q o)→L' B=some (.row q o)):=by
 let f:Place→Option Place:=fun q=>if q.k = .s i then none else if q.k = .h m then some (q.at (.s i) q.j) else if q.k.aT=false then none else some q
 have de:∀B q o,q.k≠.s i→q.k.aT=true→L B=some (.row q o)→cG f L B=some (.row q o):=by
  intro B q o h1 h2 hL;have h3:q.k≠.h m:=fun e=>by rw [e] at h2;simp [Key.aT] at h2
  exact gL hL (by simp only [f];rw [aB h1,aB h3,aB (by rw [h2];simp)])
 have bp:Step w w L (cG f L) S.γ (S.wr { k:=.s i,v:=x }).γ:=by
  refine ⟨fun B hB=>⟨jL.2 hB,rfl⟩,S.pZ _,?_,fun _ _ _ _ _ _ _=>rfl,fun B r o _ hB=>jv.2 hB⟩;intro B q o hq hγ hL;have az:q.k≠.s i:=by intro e;rw [St.jS,e] at hγ;simp at hγ
  exact ⟨de B q o az hq hL,fun cur e fz hB=>⟨cur,hB,rfl⟩⟩
 have QH:(a.put (some i) v).tmps=a.tmps.setIfInBounds i v:=rfl;refine ⟨cG f L,?_,?_,?_,de⟩
 ·refine h.write { k:=.s i,v:=x } (by simp [QH]) h.defers ?_ bp (fun B q o h1 h2 h3=>⟨de B q o h1 h2 h3,rfl⟩) (fun B r o _ hL=>⟨jv.2 hL,fun cur e fz hB=>⟨cur,hB,rfl,fun _ _=>rfl⟩⟩) ?_ ?_ ?_ ?_
  ·intro j hj;rw [QH];have az:i≠j:=fun e=>hj (by rw [e])
   simp [iw,yw az]
  ·show bD nm w (cG f L) _ (.s i) x ((a.put (some i) v).tmps.getD i undef);have hg:(a.put (some i) v).tmps.getD i undef=v:=by
    rw [QH];have:i < a.tmps.size:=by rw [h.size];exact hi
    simp [iw,wK,this]
   rw [hg];refine hv.step bp ?_;intro B q o hq hL;exact ⟨gL hL (by simp only [f];rw [aB (by rw [hq];simp),aJ hq]),rfl⟩
  ·intro B l hB;obtain ⟨l0,h0⟩:=G2 hB;exact h.fu B l0 h0
  ·refine G3 h.eN ?_;intro q q' t B B' o o' h1 h2 _ _;simp only [f] at h1 h2;by_cases hq:q.k = .s i
   ·simp [hq] at h1
   by_cases vy:q'.k = .s i
   ·simp [vy] at h2
   rw [aB hq] at h1;rw [aB vy] at h2;by_cases B6:q.k = .h m
   ·rw [aJ B6] at h1;by_cases vr:q'.k = .h m
    ·rw [aJ vr] at h2;rw [←h2] at h1;simp only [ai,Place.at,Place.mk.injEq,lh] at h1;cases q;cases q';simp_all
    ·rw [aB vr] at h2;split at h2
     ·simp at h2
     ·rw [←h1] at h2;simp only [ai] at h2;exact absurd (by rw [h2];rfl) vy
   ·rw [aB B6] at h1;split at h1
    ·simp at h1
    ·by_cases vr:q'.k = .h m
     ·rw [aJ vr] at h2;rw [←h2] at h1;simp only [ai] at h1;exact absurd (by rw [h1];rfl) hq
     ·rw [aB vr] at h2;split at h2
      ·simp at h2
      ·rw [←h2] at h1;simpa using h1
  ·intro B B' r o o' h1 h2;exact h.fB B B' r o o' (jv.1 h1) (jv.1 h2)
 ·intro B q o hB;obtain ⟨q0,h1,h2⟩:=oS hB;simp only [f] at h2;split at h2
  ·simp at h2
  ·split at h2
   ·simp only [ai] at h2;rw [←h2];rfl
   ·split at h2
    ·simp at h2
    ·rename_i h3;simp only [ai] at h2;rw [←h2];simpa using h3
 ·refine ⟨rfl,rfl,rfl,bT _,fun B hB=>⟨jL.2 hB,rfl⟩,?_,fun B i o hB=>jv.2 hB⟩;intro B _ hB;exact ⟨by simp [cG,hB],rfl⟩
theorem bD.setCell {w':World} {L':aw} {γ γ':Key→Nat} {k:Key} {x:V} {v:Value} {j:Nat} {c c':C} (h:bD nm w L γ k x v) (hc:x.cells[j]? = some c)
  (hs:Step w w' L L' γ γ')
  (kv:∀B q o,q.k=k→q.j≠j→L B=some (.row q o)→L' B=some (.row q o)∧w'.heap[B]? = w.heap[B]?)
  (hj:∀u,aG nm w L γ k j c u→aG nm w' L' γ' k j c' u):bD nm w' L' γ' k (x.setCell j c') v:=by
 cases h with
 | @one c0 _ h=>
  simp only [V.cells] at hc;cases j with
  | zero=>
   simp only [kC,ai] at hc;subst hc;simp only [V.setCell,bW];exact .one (hj _ h)
  | succ j=>simp at hc
 | @agg cs vs hl h=>
  simp only [V.cells] at hc;simp only [V.setCell];refine .agg (by simpa using hl) ?_;intro j' c1 u h1 h2;rw [M'] at h1;by_cases Qn:j=j'
  ·subst Qn;simp only [bW] at h1;split at h1
   ·simp only [ai] at h1;subst h1;exact hj u (h j c u hc h2)
   ·simp at h1
  ·simp only [Qn,dE] at h1;refine (h j' c1 u h1 h2).step hs ?_;intro B q o vz JD hL;have:=kv B q o vz (by rw [JD];exact fun e=>Qn e.symm) hL;rwa [←vz,←JD,Place.l9]
 | aq=>simp [V.cells] at hc
open Classical in
noncomputable def gV (t:Place) (L:aw):aw:=fun B=>
 match L B with
 | some (.row q o)=>if bE t q then some .bh else some (.row q o)
 | x=>x
theorem pw {t:Place} {B:Nat} (h:L B=some .bh):gV t L B=some .bh:=by simp [gV,h]
theorem xa {t:Place} {B o:Nat} {r:aI}:gV t L B=some (.box r o)↔L B=some (.box r o):=by
 unfold gV;split
 ·rename_i q0 o0 hL;rw [hL];split<;>simp
 ·rfl
theorem sk {t q:Place} {B o:Nat} (h:L B=some (.row q o)) (hn:¬ bE t q):gV t L B=some (.row q o):=by simp [gV,h,hn]
theorem xb {t q:Place} {B o:Nat} (h:L B=some (.row q o)) (hn:bE t q):gV t L B=some .bh:=by simp [gV,h,hn]
theorem BH {t q:Place} {B o:Nat} (h:gV t L B=some (.row q o)):L B=some (.row q o)∧¬ bE t q:=by
 unfold gV at h;split at h
 ·rename_i q0 o0 hL;split at h
  ·simp at h
  ·rename_i hn;simp only [ai,bO.row.injEq] at h;obtain ⟨rfl,rfl⟩:=h;exact ⟨hL,hn⟩
 ·rename_i h1;exact absurd h (h1 q o)
theorem Yj {t:Place} {B:Nat} {l:bO} (h:gV t L B=some l):∃l0,L B=some l0:=by
 unfold gV at h;split at h
 ·rename_i q0 o0 hL;exact ⟨_,hL⟩
 ·exact ⟨_,h⟩
theorem aiP {t:Place} {B:Nat}:gV t L B=none↔L B=none:=by
 unfold gV;split
 ·rename_i q0 o0 hL;rw [hL];split<;>simp
 ·rfl
theorem Yk {t:Place} (h:lZ L):lZ (gV t L):=fun B B' pl o o' h1 h2=>h B B' pl o o' (BH h1).1 (BH h2).1
theorem Yl (t:Place):dc w w L (gV t L):=
 ⟨rfl,rfl,rfl,bT _,fun B hB=>⟨pw hB,rfl⟩,fun B _ hB=>⟨aiP.2 hB,rfl⟩,fun B i o hB=>xa.2 hB⟩
theorem bE.key {t q:Place} (h:bE t q):q.k=t.k∧q.j=t.j:=by obtain ⟨r,rfl⟩:=h;exact ⟨rfl,rfl⟩
theorem N1 (S:St) (k k':Key):S.γ k'≤bump S k k':=by unfold bump;split<;>omega
theorem Ei {S:St} {k k':Key} (h:bump S k k'=S.γ k'):k'≠k:=by
 intro e;subst e;simp [bump] at h
theorem Rel.ac3 (h:Rel nm N S a w L) {k:Key} {j:Nat} {c c':C} {L':aw}
  (hk:(∃i,k = .s i)∨∃r c,k = .b r c) (hE:(S.E k).cells[j]? = some c) (Jg:c≠.dead)
  (fU:∀B,L B=some .bh→L' B=some .bh)
  (kv:∀B q o,q.k≠k→q.k.aT=true→L B=some (.row q o)→L' B=some (.row q o))
  (ajP:∀B q o,q.k=k→q.j≠j→L B=some (.row q o)→L' B=some (.row q o))
  (gW:∀B r o,L' B=some (.box r o)↔L B=some (.box r o))
  (hd:∀B l,L' B=some l→∃l0,L B=some l0) (oI:lZ L')
  (fF:∀u,aG nm w L S.γ k j c u→aG nm w L' (bump S k) k j c' u) (P3:∀t,c'≠.bu t:=by intro t h;cases h) :
  Rel nm N (S.wr { k,v:=(S.E k).setCell j c' }) a w L':=by
 have bp:Step w w L L' S.γ (bump S k):=by
  refine ⟨fun B hB=>⟨fU B hB,rfl⟩,N1 S k,?_,fun _ _ _ _ _ _ _=>rfl,fun B r o _ hB=>(gW B r o).2 hB⟩;intro B q o hq hγ hL;exact ⟨kv B q o (Ei hγ) hq hL,fun cur e fz hB=>⟨cur,hB,rfl⟩⟩
 refine h.Hv _ _ rfl fU (fun B q o h1 h2 h3=>kv B q o h1 h2 h3) (fun B r o hB=>(gW B r o).2 hB) ?_ hd oI (fun B r o hB=>(gW B r o).1 hB);rw [DY];rcases hk with ⟨i,rfl⟩ | ⟨r,cc,rfl⟩
 ·exact (h.slot i).setCell hE bp (fun B q o h1 h2 hL=>⟨ajP B q o h1 h2 hL,rfl⟩) fF
 ·obtain ⟨c0,vb⟩:=h.kg r cc;rw [vb] at hE;simp only [V.cells] at hE;cases j with
  | succ j=>simp at hE
  | zero=>
   simp only [kC,ai] at hE;subst hE;have af:cc < cj (S.E (.r r)):=by
    refine Nat.lt_of_not_le fun hle=>Jg ?_
    have:=h.bound r cc hle;rw [vb] at this;simpa using this
   refine ⟨c',by simp [vb,V.setCell],fun _=>⟨af,?_⟩⟩;have hold:=h.cell r cc _ vb Jg;cases r with
   | g i=>obtain ⟨v,hv⟩:=hold;exact ⟨v,fF v hv⟩
   | e i=>obtain ⟨B,o,cur,e,fz,v,h1,h2,h3,h4,h5⟩:=hold;exact ⟨B,o,cur,e,fz,v,(gW _ _ _).2 h1,h2,h3,h4,fF v h5.1,.of P3⟩
   | l i=>obtain ⟨B,o,cur,e,fz,v,h1,h2,h3,h4,h5⟩:=hold;exact ⟨B,o,cur,e,fz,v,(gW _ _ _).2 h1,h2,h3,h4,fF v h5.1,.of P3⟩
theorem Rel.aiO (h:Rel nm N S a w L) {k:Key} {j:Nat} {p:List (Nat×Nat)} {x:D} {sz:Nat} {rows:List (List D)}
  (hk:(∃i,k = .s i)∨∃r c,k = .b r c) (hE:(S.E k).cells[j]? = some (.d x)) (hn:eo x p=some (.sl .own sz rows)) :
  Rel nm N (S.wr { k,v:=(S.E k).setCell j (.d (eG x p (.sl (.im false) sz (aW rows)))) }) a w (gV ⟨k,j,p⟩ L):=by
 refine h.ac3 hk hE (by simp) (fun B hB=>pw hB) (fun B q o hq _ hL=>sk hL (fun hu=>hq hu.key.1)) (fun B q o _ hq hL=>sk hL (fun hu=>hq hu.key.2))
  (fun B r o=>xa) (fun B l hB=>Yj hB) (Yk h.eN) ?_
 intro u hu;cases hu with
 | d hd=>
  refine .d ?_;have BT:(⟨k,j,[]⟩:Place).app p=⟨k,j,p⟩:=by simp [Place.app]
  refine bt.subst p hd hn (fun B hB=>⟨pw hB,rfl⟩) ?_ ?_ rfl
  ·intro B' q o' _ h2 h3;rw [BT] at h2;exact sk h3 h2
  ·intro u' jt;rw [BT] at jt ⊢;refine .plain ?_;have:=bt.freeze (w':=w) (L':=gV ⟨k,j,p⟩ L) (bE ⟨k,j,p⟩) (fun q i c h=>h.sub i c) (fun B hB=>⟨pw hB,rfl⟩) (fun B q o hq hL=>⟨xb hL hq,rfl⟩) jt (bE.refl _);simpa [kV] using this
theorem Rel.grow (h:Rel nm N S a w L) {w':World} {L':aw} (eh:∀B l,L B=some l→w'.heap[B]? = w.heap[B]?) (hL:∀B l,L B=some l→L' B=some l)
  (hd:rV w' L') (oI:lZ L') (qb:D0 L'):Rel nm N S a w' L':=by
 have bp:Step w w' L L' S.γ S.γ:=by
  refine ⟨fun B hB=>⟨hL B _ hB,eh B _ hB⟩,fun _=>bT _,?_,fun B q o _ _ _ hB=>eh B _ hB,fun B r o _ hB=>hL B _ hB⟩;intro B q o _ _ hB;exact ⟨hL B _ hB,fun cur e fz hc=>⟨cur,(eh B _ hB).trans hc,rfl⟩⟩
 refine ⟨h.size,h.defers,?_,?_,h.kg,h.bound,fun r hg hr=>let ⟨B,o,cur,e,fz,h1,h2,h3,h4⟩:=h.room r hg hr;⟨B,o,cur,e,fz,hL B _ h1,(eh B _ h1).trans h2,h3,h4⟩,hd,oI,qb⟩
 ·intro i;refine (h.slot i).step bp ?_;intro B q o hq hB;refine ⟨?_,eh B _ hB⟩;rw [←hq,Place.l9];exact hL B _ hB
 ·intro r c x hx gg;exact (h.cell r c x hx gg).step bp (fun B q o _ hB=>⟨hL B _ hB,eh B _ hB⟩) (fun B o hB=>⟨hL B _ hB,fun cur e fz hc=>⟨cur,(eh B _ hB).trans hc,rfl,rfl⟩⟩)
theorem Rel.drew (h:Rel nm N S a w L):Rel nm N S a w.drew L:=
 h.grow (fun _ _ _=>rfl) (fun _ _ h=>h) h.fu h.eN h.fB
theorem dc.drew (w:World) (L:aw):dc w w.drew L L:=⟨rfl,rfl,rfl,bT _,fun _ h=>⟨h,rfl⟩,fun _ _ h=>⟨h,rfl⟩,fun _ _ _ h=>h⟩
def aw.put (L:aw) (B:Nat) (l:bO):aw:=fun B'=>if B'=B then some l else L B'
theorem aw.kX (L:aw) (B:Nat) (l:bO):L.put B l B=some l:=by simp [aw.put]
theorem aw.gu {L:aw} {B B':Nat} {l:bO} (h:B'≠B):L.put B l B'=L B':=by simp [aw.put,h]
theorem oF (w:World) (o:Obj):(w.alloc o).heap[w.heap.size]? = some o:=by
 show (w.heap.push o)[w.heap.size]? = _;simp
theorem mW (w:World) (o:Obj) {B:Nat} (h:B≠w.heap.size):(w.alloc o).heap[B]? = w.heap[B]?:=by
 show (w.heap.push o)[B]? = _;rw [UE,aB (fun e=>h e)]
theorem rV.new (h:rV w L):L w.heap.size=none:=by
 cases hl:L w.heap.size with
 | none=>rfl
 | some l=>exact absurd (h _ _ hl) (U1 _)
theorem dc.alloc (w:World) (L:aw) (hd:rV w L) (o:Obj) (l:bO):dc w (w.alloc o) L (L.put w.heap.size l):=by
 refine ⟨rfl,rfl,rfl,by simp,?_,?_,fun B i o hB=>by rw [aw.gu (fun e=>by rw [e,hd.new] at hB;cases hB)];exact hB⟩
 ·intro B hB;have:B≠w.heap.size:=fun e=>by rw [e,hd.new] at hB;cases hB
  exact ⟨by rw [aw.gu this];exact hB,mW w _ this⟩
 ·intro B af hB;have:B≠w.heap.size:=by omega
  exact ⟨by rw [aw.gu this];exact hB,mW w _ this⟩
end
end
section
theorem abb {S:St}:∀(p:List (Nat×Nat)) (x y:D),(xN x p).run S=some y→eo x p=some y
 | [],x,y,h=>by
  have:x=y:=by cases x<;>simpa [xN] using h
  subst this;cases x<;>rfl
 | (i,c)::p,x,y,h=>by
  cases x with
  | sl t sz rows=>
   cases t with
   | own=>
    simp only [xN,Q.run_bind,Q.ym] at h;rw [eo];cases h1:rows[i]? with
    | none=>simp [h1] at h
    | some row=>
     simp only [h1,Option.bind_some] at h ⊢;cases h2:row[c]? with
     | none=>simp [h2] at h
     | some z=>
      simp only [h2,Option.bind_some] at h ⊢;cases h3:(Q.NO z).run S with
      | none=>simp [h3] at h
      | some z'=>
       simp only [h3,Option.bind_some] at h;obtain rfl:=Q.apm S h3;exact abb p _ _ h
   | im b=>simp [xN] at h
  | _=>simp [xN] at h
theorem uu {S:St} {ws:List Wr} {pl:Place} {g sz:Nat} {r:mN×D×List (List D)} (h:(ju ws pl g sz).run S=some r) :
  r.1=⟨(S.ah ws).E pl.k,S.γ pl.k⟩∧g=S.γ pl.k∧((S.ah ws).E pl.k).cells[pl.j]? = some (.d r.2.1)∧eo r.2.1 pl.p=some (.sl .own sz r.2.2):=by
 unfold ju at h;simp only [Q.run_bind,uV,Option.bind_some,Q.lD] at h;by_cases hg:(S.γ pl.k==g)=true
 ·simp only [hg,bW,Option.bind_some] at h;cases hc:((S.ah ws).E pl.k).cells[pl.j]? with
  | none=>simp [hc] at h
  | some c=>
   rw [hc] at h;cases c with
   | d x=>
    simp only [Q.run_bind] at h;cases nN:(xN x pl.p).run S with
    | none=>simp [nN] at h
    | some y=>
     have hn:=abb _ _ _ nN;simp only [nN,Option.bind_some] at h;cases y with
     | sl t cp rows=>
      cases t with
      | own=>
       simp only [Q.run_bind,Q.lD] at h;by_cases hs:(cp==sz)=true
       ·simp only [hs,bW,Option.bind_some,Q.run_pure,ai] at h;have jI:cp=sz:=by simpa using hs
        subst h;subst jI;exact ⟨rfl,by simpa using (eU.1 hg).symm,rfl,hn⟩
       ·simp [hs] at h
      | im b=>simp at h
     | int=>simp at h
     | bool=>simp at h
     | str=>simp at h
     | dead=>simp at h
   | _=>simp at h
 ·simp [hg] at h
theorem Step.trans {w1 w2 w3:World} {L1 L2 L3:aw} {γ1 γ2 γ3:Key→Nat} (h:Step w1 w2 L1 L2 γ1 γ2) (k:Step w2 w3 L2 L3 γ2 γ3):Step w1 w3 L1 L3 γ1 γ3:=by
 have hle:∀x,γ3 x=γ1 x→γ2 x=γ1 x∧γ3 x=γ2 x:=fun x e=>by
  have h1:=h.dP x;have h2:=k.dP x;omega
 refine ⟨fun B hB=>⟨(k.bh B (h.bh B hB).1).1,(k.bh B (h.bh B hB).1).2.trans (h.bh B hB).2⟩,fun x=>jd (h.dP x) (k.dP x),?_,?_,?_⟩
 ·intro B q o hq he hB;obtain ⟨e1,e2⟩:=hle _ he;obtain ⟨g1,g2⟩:=h.view B q o hq e1 hB;obtain ⟨g3,g4⟩:=k.view B q o hq e2 g1;refine ⟨g3,fun cur e fz hc=>?_⟩;obtain ⟨dQ,g5,g6⟩:=g2 cur e fz hc;obtain ⟨afL,g7,g8⟩:=g4 dQ e fz g5;exact ⟨afL,g7,g8.trans g6⟩
 ·intro B q o hq he ha hB;obtain ⟨e1,e2⟩:=hle _ he;obtain ⟨e3,e4⟩:=hle _ ha;exact (k.app B q o hq e2 e4 (h.view B q o hq e1 hB).1).trans (h.app B q o hq e1 e3 hB)
 ·intro B r o he hB;obtain ⟨e1,e2⟩:=hle _ he;exact k.box B r o e2 (h.box B r o e1 hB)
structure cg (nm:FuncId→Option Nat) (N:Nat) (S0:St) (w0:World) (L0:aw) (ws:List Wr) (a:Act) (w:World) (L:aw):Prop where
 rel:Rel nm N (S0.ah ws) a w L
 dh:Step w0 w L0 L S0.γ (S0.ah ws).γ
 mono:dc w0 w L0 L
 rows:∀B q o,q.k.aT=true→L B=some (.row q o)→L0 B=some (.row q o)
 heap:∀B l,L0 B=some l→w.heap[B]? = w0.heap[B]?
 vH:lZ L0
 boxes:∀B r o,L0 B=some (.box r o)→L B=some (.box r o)
section
variable {nm:FuncId→Option Nat} {N:Nat} {S0:St} {w0:World} {L0:aw} {ws:List Wr} {a:Act} {w:World} {L:aw}
theorem cg.init {S:St} (h:Rel nm N S a w L):cg nm N S w L [] a w L:=
 ⟨h,Step.same w L (fun _=>bT _),dc.refl w L,fun _ _ _ _ h=>h,fun _ _ _=>rfl,h.eN,fun _ _ _ h=>h⟩
theorem cg.freeze (M:cg nm N S0 w0 L0 ws a w L) {k:Key} {j:Nat} {p:List (Nat×Nat)} {x:D} {sz:Nat} {rows:List (List D)}
  (hk:k.aT=true) (hE:((S0.ah ws).E k).cells[j]? = some (.d x)) (hn:eo x p=some (.sl .own sz rows)) :
  cg nm N S0 w0 L0 (nj ws k (((S0.ah ws).E k).setCell j (.d (eG x p (.sl (.im false) sz (aW rows)))))) a w (gV ⟨k,j,p⟩ L):=by
 have iG:(∃i,k = .s i)∨∃r c,k = .b r c:=by
  cases k with
  | s i=>exact .inl ⟨i,rfl⟩
  | b r c=>exact .inr ⟨r,c,rfl⟩
  | _=>simp [Key.aT] at hk
 have qp:=M.rel.aiO iG hE hn;refine ⟨qp,M.dh.trans ?_,M.mono.trans (Yl _),fun B q o hq hB=>M.rows B q o hq (BH hB).1,M.heap,M.vH,fun B r o hB=>xa.2 (M.boxes B r o hB)⟩;show Step w w L _ (S0.ah ws).γ ((S0.ah ws).wr { k,v:=_ }).γ;rw [DY];refine ⟨fun B hB=>⟨pw hB,rfl⟩,N1 _ k,?_,fun _ _ _ _ _ _ _=>rfl,fun B r o _ hB=>xa.2 hB⟩;intro B q o hq hγ hL;exact ⟨sk hL (fun hu=>Ei hγ hu.key.1),fun cur e fz hB=>⟨cur,hB,rfl⟩⟩
theorem aqr {t:Place} {sz off len:Nat} {rows:List (List D)} {u v:Value} {w0:World} {L0 L:aw} (q6:lZ L0)
  (vA:∀B o,L B=some (.row t o)→L0 B=some (.row t o))
  (hd:bt w L t (.sl .own sz rows) u) (hv:A1 w0 L0 t sz off len v) (hle:off+len≤rows.length) :
  fM w (gV t L) (.sl (.im false) sz (aW ((rows.drop off).take len))) v:=by
 by_cases hlen:len=0
 ·subst hlen;simp only [HJ,aW];rcases hv with ⟨_,a,rfl⟩ | ⟨B,o,cap,cur,e,fz,rfl,_⟩
  ·exact .mD
  ·exact .mD
 rcases hv with ⟨h0,_⟩ | ⟨B,o,cap,afM,e0,Yn,rfl,bf,p9,_,_,ajA,_⟩
 ·exact absurd h0 hlen
 rcases hd.nU with ⟨rfl,_⟩ | ⟨B',o',yT,cur,e,fz,val,rfl,_,hL,hB,cU,fQ,dL,dG,cm,hr,dX⟩
 ·simp at hle;omega
 have fj:=vA B' o' hL;obtain rfl:=q6 B' B t o' o fj p9;obtain rfl:o'=o:=by rw [fj] at p9;simpa using p9
 have hl:((rows.drop off).take len).length=len:=by simp;omega
 have fF:∀i c x,cellOf (aW ((rows.drop off).take len)) i c=some x→∃y,cellOf rows (off+i) c=some y∧x=kV y∧i < len:=by
  intro i c x hx;rw [Bi] at hx;cases hy:cellOf ((rows.drop off).take len) i c with
  | none=>simp [hy] at hx
  | some y=>
   simp only [hy,fh,ai] at hx;obtain ⟨r,h1,h2⟩:=kJ.1 hy;have kN:i < len:=by
    have:=(cw.1 h1).1;omega
   refine ⟨y,kJ.2 ⟨r,?_,h2⟩,hx.symm,kN⟩;rw [yA kN,tC] at h1;exact h1
 have cK:(aW ((rows.drop off).take len)).length=len:=by rw [An,hl]
 have:fM w (gV t L) (.sl (.im false) sz (aW ((rows.drop off).take len))) (.slice (some ⟨B',o'+off * sz,none⟩) (aW ((rows.drop off).take len)).length cap):=by
  refine .pl (cur:=cur) (e:=e) (fz:=fz) (fun i c=>val (off+i) c) ?_ bf (by rw [cK];exact ajA) (xb hL (bE.refl _)) hB ?_ ?_ ?_
  ·intro h;rw [h] at cK;simp at cK;omega
  ·intro r en;rw [Dg] at en;obtain ⟨r1,h1,rfl⟩:=iz.1 en;simpa using fQ r1 (Nf (DT h1))
  ·intro i c x hx;obtain ⟨y,h1,_,_⟩:=fF i c x hx;have:=cm _ _ _ h1;rw [lJ] at this;rw [show o'+off * sz+i * sz+c=o'+(off * sz+i * sz)+c by omega];exact this
  ·intro i c x hx;obtain ⟨y,h1,rfl,_⟩:=fF i c x hx;exact bt.freeze (bE t) (fun q i c h=>h.sub i c) (fun B hB=>⟨pw hB,rfl⟩) (fun B q o hq hL=>⟨xb hL hq,rfl⟩) (hr _ _ _ h1) ((bE.refl t).sub _ _)
 rwa [cK] at this
theorem Rel.afv {S:St} (h:Rel nm N S a w L) {k:Key} {j:Nat} {x:D} (hk:k.aT=true)
  (hE:(S.E k).cells[j]? = some (.d x)):∃u,bt w L ⟨k,j,[]⟩ x u:=by
 cases k with
 | s i=>
  have:=h.slot i;cases hv:S.E (.s i) with
  | one c=>
   rw [hv] at this hE;cases this with
   | one hc=>
    cases j with
    | succ j=>simp [V.cells] at hE
    | zero=>
     simp only [V.cells,kC,ai] at hE;subst hE;cases hc with
     | d hd=>exact ⟨_,hd⟩
  | agg cs=>
   rw [hv] at this hE;generalize a.tmps.getD i undef=v0 at this;cases this with
   | agg hl hc=>
    rename_i vs;simp only [V.cells] at hE;have hj:j < vs.size:=by rw [←hl];exact (cw.1 hE).1
    have:=hc j _ vs[j] hE (by simp [hj]);cases this with
    | d hd=>exact ⟨_,hd⟩
  | aq vs=>simp [hv,V.cells] at hE
 | b r c=>
  obtain ⟨c0,hv⟩:=h.kg r c;rw [hv] at hE;cases j with
  | succ j=>simp [V.cells] at hE
  | zero=>
   simp only [V.cells,kC,ai] at hE;subst hE;have fF:=h.cell r c _ hv (by simp);cases r with
   | g i=>obtain ⟨v,hv⟩:=fF;cases hv with | d hd=>exact ⟨_,hd⟩
   | e i=>obtain ⟨B,o,cur,e,fz,v,_,_,_,_,hv,_⟩:=fF;cases hv with | d hd=>exact ⟨_,hd⟩
   | l i=>obtain ⟨B,o,cur,e,fz,v,_,_,_,_,hv,_⟩:=fF;cases hv with | d hd=>exact ⟨_,hd⟩
 | r r=>simp [Key.aT] at hk
 | h i=>simp [Key.aT] at hk
 | a k=>simp [Key.aT] at hk
theorem bt.adl {pl:Place} {sz:Nat} {rows:List (List D)} {v:Value} (h:bt w L pl (.sl .own sz rows) v):Vl rows.length v:=by
 rcases h.nU with ⟨rfl,a,rfl⟩ | ⟨B,o,cap,cur,e,fz,val,rfl,bf,hL,hB,cU,fQ,dL,dG,cm,hr,dX⟩
 ·exact ⟨_,_,rfl,bT _,rfl⟩
 ·exact ⟨_,_,rfl,dL,rfl⟩
theorem aG.look {γ:Key→Nat} {k:Key} {j:Nat} {c:C} {v:Value} (hk:k.aT=true) (h:aG nm w L γ k j c v) (k':Key) (j':Nat) :
  aG nm w L γ k' j' (c.look k (γ k) j) v:=by
 by_cases qY:∃t,c = .bu t
 ·obtain ⟨t,rfl⟩:=qY;exact .dead
 cases hc:c.own with
 | false=>
  have:c.look k (γ k) j=c:=by
   cases c with
   | d x=>
    cases x with
    | sl t sz rows=>cases t<;>simp_all [C.own,C.look]
    | _=>rfl
   | c6=>simp [C.own] at hc
   | bu t=>exact absurd ⟨t,rfl⟩ qY
   | mp=>simp [C.own] at hc
   | _=>rfl
  rw [this];exact h.any (h.uX hc) _ _
 | true=>
  cases h with
  | @d x v h=>
   cases x with
   | sl t sz rows=>
    cases t with
    | own=>
     simp only [C.look];refine .view h.adl hk (bT _) (fun _=>?_);rcases h.nU with ⟨rfl,a,rfl⟩ | ⟨B,o,cap,cur,e,fz,val,rfl,bf,hL,hB,cU,fQ,dL,dG,cm,hr,dX⟩
     ·exact .inl ⟨rfl,a,rfl⟩
     ·exact .inr ⟨B,o,cap,cur,e,fz,by simp,bf,hL,hB,cU,dL,by omega,fun _ h0=>dX (.inr (pW.1 h0))⟩
    | im b=>simp [C.own] at hc
   | _=>simp [C.own] at hc
  | c6=>simp only [C.look];exact .dead
  | bu=>exact absurd ⟨_,rfl⟩ qY
  | mp=>simp only [C.look];exact .dead
  | _=>simp [C.own] at hc
theorem aaN (k:Key) (g:Nat):∀(cs:List C) (j0 j:Nat),(um k g j0 cs)[j]? = (cs[j]?).map fun c=>c.look k g (j0+j)
 | [],_,_=>by simp [um]
 | c::cs,j0,0=>by simp [um]
 | c::cs,j0,j+1=>by
  simp only [um,yx];rw [aaN k g cs (j0+1) j];congr 1;funext c;congr 1;omega
theorem aaO (k:Key) (g:Nat):∀(cs:List C) (j0:Nat),(um k g j0 cs).length=cs.length
 | [],_=>rfl
 | c::cs,j0=>by simp [um,aaO k g cs]
theorem bD.look {γ:Key→Nat} {k:Key} {x:V} {v:Value} (hk:k.aT=true) (h:bD nm w L γ k x v) (k':Key):bD nm w L γ k' (x.look k (γ k)) v:=by
 cases h with
 | one h=>exact .one (h.look hk _ _)
 | agg hl h=>
  refine .agg (by rw [aaO];exact hl) ?_;intro j c u h1 h2;rw [aaN] at h1;simp only [db] at h1;rename_i cs vs;cases hc:cs[j]? with
  | none=>simp [hc] at h1
  | some c0=>
   simp only [hc,fh,ai] at h1;subst h1;exact (h j c0 u hc h2).look hk _ _
 | aq hl aS h=>exact .aq hl aS (fun i x u h1 h2=>(h i x u h1 h2).any (Er aS h1) _)
inductive bQ (nm:FuncId→Option Nat):X→Operand→Prop where
 | s {i}:bQ nm (.s i) (.tmp i)
 | t {i}:bQ nm (.t i) (.tmp i)
 | c {x v} (h:∀(w:World) (L:aw) (γ:Key→Nat) (k:Key),bD nm w L γ k x v):bQ nm (.c x) (.const v)
 | f {n f} (h:nm f=some n) (ht:n < kL):bQ nm (.f n) (.func f)
theorem acr {S:St} (h:Rel nm N S a w L) {x:X} {o:Operand} (ho:bQ nm x o) {v:V} (hr:(rd x).run S=some v) (k:Key) :
  bD nm w L S.γ k v (a.eval o):=by
 cases ho with
 | @s i=>
  simp only [rd,Q.run_bind,Q.uA,Option.bind_some,Q.run_pure,ai] at hr;subst hr;exact (h.slot i).look rfl k
 | @t i=>
  simp only [rd,Q.run_bind,Q.uA,Option.bind_some,Q.run_pure,ai] at hr;subst hr;exact (h.slot i).look rfl k
 | @c x v hc=>
  simp only [rd,Q.run_pure,ai] at hr;subst hr;exact hc w L S.γ k
 | @f n cF hf ht=>
  simp only [rd,Q.run_pure,ai] at hr;subst hr;exact .one (.fn (fs:=#[]) (cs:=#[]) ht hf rfl rfl ⟨rfl,rfl⟩ (fun i x u h=>by simp at h) (fun i x u h=>by simp at h))
theorem aG.rG {w':World} {L':aw} {γ γ':Key→Nat} (hs:Step w w' L L' γ γ') {k:Key} {j:Nat} {c:C} {v:Value} (h:aG nm w L γ k j c v)
  (hc:c.clean=true) (k':Key) (j':Nat):aG nm w' L' γ' k' j' c v:=by
 induction h with
 | @d x v h=>
  cases h with
  | plain h=>exact .d (.plain (h.mono hs.bh))
  | jk=>simp [C.clean] at hc
  | own=>simp [C.clean] at hc
 | @ptr r g c v hv hg h=>
  refine .ptr hv (jd hg (hs.dP _)) ?_;intro he;have:γ' (.r r)=γ (.r r):=uN (he▸hg) (hs.dP _);obtain ⟨B,o,h1,h2⟩:=h (he.trans this);exact ⟨B,o,hs.box B r o this h1,h2⟩
 | @eE pl g sz i c v hv hh hg h=>
  refine .eE hv hh (jd hg (hs.dP _)) ?_;intro he;have:γ' pl.k=γ pl.k:=uN (he▸hg) (hs.dP _);obtain ⟨B,o,h1,h2⟩:=h (he.trans this);exact ⟨B,o,(hs.view B pl o hh this h1).1,h2⟩
 | pp hL hB h=>
  refine .pp (hs.bh _ hL).1 ((hs.bh _ hL).2.trans hB) ?_;intro q x hx;obtain ⟨u,h1,h2⟩:=h q x hx;exact ⟨u,h1,h2.mono hs.bh⟩
 | @view pl g sz off len v hv hh hg h=>
  refine .view hv hh (jd hg (hs.dP _)) ?_;intro he;have:γ' pl.k=γ pl.k:=uN (he▸hg) (hs.dP _);exact (h (he.trans this)).step hs hh this
 | c6=>simp [C.clean] at hc
 | fn jG hf h1 h2 aS h3 h4 sL sM=>
  exact .fn jG hf h1 h2 aS (fun i x u hx hu=>sL i x u hx hu (ko aS.1 hx)) (fun i x u hx hu=>sM i x u hx hu (ko aS.2 hx))
 | fns val hf hL hB aS hv h ih=>exact .fns val hf (hs.bh _ hL).1 ((hs.bh _ hL).2.trans hB) aS hv (fun i x hx=>ih i x hx (ko aS hx))
 | cz=>exact .cz
 | eX=>exact .eX
 | fS=>exact .fS
 | fm=>exact .fm
 | bu=>simp [C.clean] at hc
 | mp=>simp [C.clean] at hc
 | @gi i g v hv hg h=>
  refine .gi hv (jd hg (hs.dP _)) ?_;intro he;have:γ' (.b (.g i) 0)=γ (.b (.g i) 0):=uN (he▸hg) (hs.dP _);obtain ⟨B,h1,h2⟩:=h (he.trans this);exact ⟨B,(hs.view B _ 0 rfl this h1).1,h2⟩
 | dead=>exact .dead
theorem bD.rG {w':World} {L':aw} {γ γ':Key→Nat} (hs:Step w w' L L' γ γ') {k:Key} {x:V} {v:Value} (h:bD nm w L γ k x v)
  (hc:x.clean=true) (k':Key):bD nm w' L' γ' k' x v:=by
 induction h with
 | one h=>exact .one (h.rG hs hc _ _)
 | agg hl h=>exact .agg hl (fun j c u h1 h2=>(h j c u h1 h2).rG hs (ko hc h1) _ _)
 | aq hl aS h ih=>exact .aq hl aS (fun i x u h1 h2=>ih i x u h1 h2 (Er aS h1))
def iQ (nm:FuncId→Option Nat) (w0:World) (L0:aw) (γ0:Key→Nat) (w:World) (L:aw) (γ:Key→Nat) (m j:Nat) (c:C) (v:Value):Prop:=
 match c with
 | .view .. => aG nm w0 L0 γ0 (.h m) j c v
 | _=>aG nm w L γ (.h m) j c v
theorem iQ.Aj {γ0 γ:Key→Nat} (hs:Step w0 w L0 L γ0 γ) {k:Key} {m j j':Nat} {c:C} {v:Value} (h:aG nm w0 L0 γ0 k j' c v) (hc:c.own=false):iQ nm w0 L0 γ0 w L γ m j c v:=by
 have aS:=h.uX hc;have bp:aG nm w L γ (.h m) j c v:=h.rG hs aS _ _;have h0:aG nm w0 L0 γ0 (.h m) j c v:=h.any aS _ _;cases c with
 | view=>exact h0
 | _=>exact bp
structure pd (w w':World) (L L':aw) (γ γ':Key→Nat) (K:Place→Prop):Prop where
 dh:Step w w' L L' γ γ'
 h:∀B q o,q.k.aT=false→K q→L B=some (.row q o)→L' B=some (.row q o)∧w'.heap[B]? = w.heap[B]?
theorem iQ.keep {γ0 γ γ':Key→Nat} {w':World} {L':aw} {m j:Nat} {c:C} {v:Value} {K:Place→Prop} (hk:pd w w' L L' γ γ' K)
  (hK:∀p,K ⟨.h m,j,p⟩) (h:iQ nm w0 L0 γ0 w L γ m j c v):iQ nm w0 L0 γ0 w' L' γ' m j c v:=by
 have step:∀{c:C},aG nm w L γ (.h m) j c v→aG nm w' L' γ' (.h m) j c v:=by
  intro c hc;refine hc.step hk.dh ?_;intro B q o h1 h2 hL;have:=hk.h B q o (by rw [h1];rfl) (by have:=hK q.p;rw [←h1,←h2] at this;exact this) hL;rwa [←h1,←h2,Place.l9]
 cases c with
 | view=>exact h
 | _=>exact step h
theorem aG.keep {γ γ':Key→Nat} {w':World} {L':aw} {m j:Nat} {c:C} {v:Value} {K:Place→Prop} (hk:pd w w' L L' γ γ' K)
  (hK:∀p,K ⟨.h m,j,p⟩) (h:aG nm w L γ (.h m) j c v):aG nm w' L' γ' (.h m) j c v:=by
 refine h.step hk.dh ?_;intro B q o h1 h2 hL;have:=hk.h B q o (by rw [h1];rfl) (by have:=hK q.p;rw [←h1,←h2] at this;exact this) hL;rwa [←h1,←h2,Place.l9]
def mO (nm:FuncId→Option Nat) (w0:World) (L0:aw) (γ0:Key→Nat) (w:World) (L:aw) (γ:Key→Nat) (m:Nat) (x:V) (v:Value):Prop:=
 match x with
 | .one c=>iQ nm w0 L0 γ0 w L γ m 0 c v
 | .agg cs=>∃vs:Array Value,v = .agg vs∧cs.length=vs.size∧∀(j:Nat) c u,cs[j]? = some c→vs[j]? = some u→iQ nm w0 L0 γ0 w L γ m j c u
 | .aq _=>bD nm w L γ (.h m) x v
theorem mO.keep {γ0 γ γ':Key→Nat} {w':World} {L':aw} {m:Nat} {x:V} {v:Value} {K:Place→Prop} (hk:pd w w' L L' γ γ' K)
  (hK:∀j p,K ⟨.h m,j,p⟩) (h:mO nm w0 L0 γ0 w L γ m x v):mO nm w0 L0 γ0 w' L' γ' m x v:=by
 cases x with
 | one c=>exact iQ.keep hk (hK 0) h
 | agg cs=>
  obtain ⟨vs,rfl,hl,hc⟩:=h;exact ⟨vs,rfl,hl,fun j c u h1 h2=>(hc j c u h1 h2).keep hk (hK j)⟩
 | aq vs=>
  refine bD.step hk.dh ?_ h;intro B q o h1 hL;have:=hk.h B q o (by rw [h1];rfl) (by have:=hK q.j q.p;rw [←h1] at this;exact this) hL;rwa [←h1,Place.l9]
theorem L7 {x:V} {j:Nat} {c:C} (h:x.own=false) (hc:x.cells[j]? = some c):c.own=false:=by
 unfold V.own at h;rw [List.any_eq_false] at h;have:=h c (ft hc);simpa using this
theorem mO.Aj {γ0 γ:Key→Nat} (hs:Step w0 w L0 L γ0 γ) {k:Key} {m:Nat} {x:V} {v:Value} (h:bD nm w0 L0 γ0 k x v) (hc:x.own=false):mO nm w0 L0 γ0 w L γ m x v:=by
 cases h with
 | one h=>exact iQ.Aj hs h (L7 (j:=0) hc rfl)
 | @agg cs vs hl h=>exact ⟨vs,rfl,hl,fun j c u h1 h2=>iQ.Aj hs (h j c u h1 h2) (L7 hc h1)⟩
 | aq hl aS h=>exact bD.rG hs (.aq hl aS h) (by simpa [V.clean] using aS) _
theorem C0 (k:Key) (g j:Nat) (c:C):(c.look k g j).own=false:=by
 cases c with
 | d x=>
  cases x with
  | sl t sz rows=>cases t<;>rfl
  | _=>rfl
 | _=>rfl
theorem aaP (k:Key) (g:Nat):∀(cs:List C) (j:Nat),(um k g j cs).any C.own=false
 | [],_=>rfl
 | c::cs,j=>by simp [um,C0,aaP k g cs (j+1)]
theorem V.C0 (k:Key) (g:Nat) (x:V):(x.look k g).own=false:=by
 cases x with
 | one c=>simp [V.look,V.own,V.cells,Go.ax.C0]
 | agg cs=>simp only [V.look,V.own,V.cells];exact aaP k g cs 0
 | aq vs=>rfl
def X.iJ:X→Bool
 | .c v=>!v.own
 | _=>true
theorem Mn {S:St} {x:X} (hx:x.iJ=true) {v:V} (hr:(rd x).run S=some v):v.own=false:=by
 cases x with
 | s i=>
  simp only [rd,Q.run_bind,Q.uA,Option.bind_some,Q.run_pure,ai] at hr;subst hr;exact V.C0 _ _ _
 | t i=>
  simp only [rd,Q.run_bind,Q.uA,Option.bind_some,Q.run_pure,ai] at hr;subst hr;exact V.C0 _ _ _
 | c v=>
  simp only [rd,Q.run_pure,ai] at hr;subst hr;simpa [X.iJ] using hx
 | f n=>
  simp only [rd,Q.run_pure,ai] at hr;subst hr;rfl
structure Out (nm:FuncId→Option Nat) (N:Nat) (S0:St) (w0:World) (L0:aw) (ws e8:List Wr) (a:Act) (w:World) (L L':aw) (K:Place→Prop) (m:Nat):Prop where
 mid:cg nm N S0 w0 L0 e8 a w L'
 dh:Step w w L L' (S0.ah ws).γ (S0.ah e8).γ
 Cu:∀B q o,q.k.aT=false→K q→L B=some (.row q o)→L' B=some (.row q o)
 xW:∀B q o,q.k.aT=false→q.k≠.h m→L' B=some (.row q o)→L B=some (.row q o)
theorem Out.refl (M:cg nm N S0 w0 L0 ws a w L) (K:Place→Prop) (m:Nat):Out nm N S0 w0 L0 ws ws a w L L K m:=
 ⟨M,Step.same w L (fun _=>bT _),fun _ _ _ _ _ h=>h,fun _ _ _ _ _ h=>h⟩
theorem Out.trans {e8 aeC:List Wr} {L' D4:aw} {K:Place→Prop} {m:Nat} (h:Out nm N S0 w0 L0 ws e8 a w L L' K m) (k:Out nm N S0 w0 L0 e8 aeC a w L' D4 K m) :
  Out nm N S0 w0 L0 ws aeC a w L D4 K m:=
 ⟨k.mid,h.dh.trans k.dh,fun B q o h1 h2 h3=>k.Cu B q o h1 h2 (h.Cu B q o h1 h2 h3),fun B q o h1 h2 h3=>h.xW B q o h1 h2 (k.xW B q o h1 h2 h3)⟩
theorem Out.weaken {e8:List Wr} {L':aw} {K K':Place→Prop} {m:Nat} (h:Out nm N S0 w0 L0 ws e8 a w L L' K m) (hK:∀q,K' q→K q):Out nm N S0 w0 L0 ws e8 a w L L' K' m:=
 ⟨h.mid,h.dh,fun B q o h1 h2=>h.Cu B q o h1 (hK q h2),h.xW⟩
theorem Out.keep {e8:List Wr} {L':aw} {K:Place→Prop} {m:Nat} (h:Out nm N S0 w0 L0 ws e8 a w L L' K m):pd w w L L' (S0.ah ws).γ (S0.ah e8).γ K:=
 ⟨h.dh,fun B q o h1 h2 h3=>⟨h.Cu B q o h1 h2 h3,rfl⟩⟩
theorem Out.free {e8:List Wr} {L':aw} {K:Place→Prop} {m m':Nat} (h:Out nm N S0 w0 L0 ws e8 a w L L' K m) (hf:qM L m') (az:m'≠m):qM L' m':=by
 intro B q o hL e;exact hf B q o (h.xW B q o (by rw [e];rfl) (by rw [e];simpa using az) hL) e
theorem wv (M:cg nm N S0 w0 L0 ws a w L) (R0:Rel nm N S0 a w0 L0) {m:Nat} (hm:qM L m) {x:X} {o:Operand} (hx:x.iJ=true) (ho:bQ nm x o) {r:V×List Wr}
  (hr:(tk ws x).run S0=some r) :
  ∃L',Out nm N S0 w0 L0 ws r.2 a w L L' (fun _=>True) m∧mO nm w0 L0 S0.γ w L' (S0.ah r.2).γ m r.1 (a.eval o):=by
 have reads:∀v,(rd x).run S0=some v→mO nm w0 L0 S0.γ w L (S0.ah ws).γ m v (a.eval o):=fun v hv=>
  mO.Aj M.dh (acr R0 ho hv (.h m)) (Mn hx hv)
 cases x with
 | t i=>
  cases ho with
  | t=>
  simp only [tk,Q.run_bind,Q.uA,Option.bind_some,Q.lD] at hr;cases hw:p8 ws (.s i) with
  | some v=>simp [hw] at hr
  | none=>
   simp only [hw,Option.isNone_none,bW,Option.bind_some,Q.run_ite,Q.run_pure] at hr;have hE:(S0.ah ws).E (.s i)=S0.E (.s i):=by rw [BK,hw];rfl
   by_cases kv:S0.E (.s i) |>.own
   ·have JC:(S0.get (.s i)).v.own=true:=kv;simp only [JC,bW,ai] at hr;subst hr;obtain ⟨L',h1,h2,h3,h4,h5,h6,h7⟩:=M.rel.take i m hm;rw [hE] at h2;have Zx:Step w w L L' (S0.ah ws).γ ((S0.ah ws).wr { k:=.s i,v:=V.dead }).γ:=by
     refine ⟨fun B hB=>⟨(h3 B).1 hB,rfl⟩,St.pZ _ _,?_,fun _ _ _ _ _ _ _=>rfl,fun B r o _ hB=>(h6 B r o).1 hB⟩;intro B q o hq hγ hL;rw [DY] at hγ;have az:=Ei hγ;exact ⟨(h4 B q o az (by intro e;rw [e] at hq;simp [Key.aT] at hq)).1 hL,fun cur e fz hB=>⟨cur,hB,rfl⟩⟩
    refine ⟨L',⟨⟨h1,M.dh.trans Zx,?_,?_,M.heap,M.vH,fun B r o hB=>(h6 B r o).1 (M.boxes B r o hB)⟩,Zx,?_,?_⟩,?_⟩
    ·exact M.mono.trans ⟨rfl,rfl,rfl,bT _,fun B hB=>⟨(h3 B).1 hB,rfl⟩,fun B _ hB=>⟨(h5 B).2 hB,rfl⟩,fun B i o hB=>(h6 B _ o).1 hB⟩
    ·intro B q o hq hL;by_cases Zn:q.k = .s i
     ·exact absurd Zn (h7 B q o hL)
     ·exact M.rows B q o hq ((h4 B q o Zn (by intro e;rw [e] at hq;simp [Key.aT] at hq)).2 hL)
    ·intro B q o hq _ hL;by_cases xq:q.k = .h m
     ·exact absurd xq (hm B q o hL)
     ·exact (h4 B q o (by intro e;rw [e] at hq;simp [Key.aT] at hq) xq).1 hL
    ·intro B q o hq xq hL;exact (h4 B q o (by intro e;rw [e] at hq;simp [Key.aT] at hq) xq).2 hL
    ·have h0:=R0.slot i;show mO nm w0 L0 S0.γ w L' _ m (S0.E (.s i)) (a.tmps.getD i undef);generalize a.tmps.getD i undef=v0 at *;cases hv:S0.E (.s i) with
     | one c=>
      rw [hv] at h2 h0;cases h2 with
      | one h2=>
       cases h0 with
       | one h0=>
        cases c with
        | view=>exact h0.any rfl _ _
        | _=>exact h2
     | agg cs=>
      rw [hv] at h2 h0;cases h2 with
      | @agg _ vs hl h2=>
       refine ⟨vs,rfl,hl,?_⟩;intro j c u g1 g2;cases h0 with
       | agg nL h0=>
        cases c with
        | view=>exact (h0 j _ u g1 g2).any rfl _ _
        | _=>exact h2 j _ u g1 g2
     | aq vs=>rw [hv] at h2;exact h2
   ·have ajO:(S0.E (.s i)).own=false:=by simpa using kv
    have JC:(S0.get (.s i)).v.own=false:=ajO;simp only [JC,rU,dE,ai] at hr;subst hr;exact ⟨L,Out.refl M _ m,mO.Aj M.dh (R0.slot i) JC⟩
 | s i=>
  simp only [tk,Q.run_bind] at hr;cases hv:(rd (.s i)).run S0 with
  | none=>simp [hv] at hr
  | some v=>
   simp only [hv,Option.bind_some,Q.run_pure,ai] at hr;subst hr;exact ⟨L,Out.refl M _ m,reads v hv⟩
 | c cv=>
  simp only [tk,Q.run_bind] at hr;cases hv:(rd (.c cv)).run S0 with
  | none=>simp [hv] at hr
  | some v=>
   simp only [hv,Option.bind_some,Q.run_pure,ai] at hr;subst hr;exact ⟨L,Out.refl M _ m,reads v hv⟩
 | f n=>
  simp only [tk,Q.run_bind] at hr;cases hv:(rd (.f n)).run S0 with
  | none=>simp [hv] at hr
  | some v=>
   simp only [hv,Option.bind_some,Q.run_pure,ai] at hr;subst hr;exact ⟨L,Out.refl M _ m,reads v hv⟩
theorem HO {S:St}:∀{ws:List Wr} {k:Key},p8 ws k=none→(S.ah ws).γ k=S.γ k
 | [],_,_=>rfl
 | x::t,k,h=>by
  simp only [p8] at h;by_cases hk:x.k=k
  ·simp [hk] at h
  ·simp only [hk,dE] at h;simp only [St.ah,St.jS,hk,dE];exact HO h
theorem I3 {S:St} {ws:List Wr} {k:Key} (h:fresh ws k=true):(S.ah ws).γ k=S.γ k∧(S.ah ws).γ (.a k)=S.γ (.a k)∧(S.ah ws).E k=S.E k:=by
 simp only [fresh,bK,U6] at h;exact ⟨HO h.1,HO h.2,by rw [BK,h.1];rfl⟩
theorem Rel.aqg {S:St} (h:Rel nm N S a w L) {L':aw} (fU:∀B,L B=some .bh→L' B=some .bh)
  (de:∀B q o,q.k.aT=true→(L B=some (.row q o)→L' B=some (.row q o)))
  (gW:∀B r o,L' B=some (.box r o)↔L B=some (.box r o)) (hd:∀B l,L' B=some l→∃l0,L B=some l0) (oI:lZ L'):Rel nm N S a w L':=by
 have bp:Step w w L L' S.γ S.γ:=by
  refine ⟨fun B hB=>⟨fU B hB,rfl⟩,fun _=>bT _,?_,fun _ _ _ _ _ _ _=>rfl,fun B r o _ hB=>(gW B r o).2 hB⟩;intro B q o hq _ hB;exact ⟨de B q o hq hB,fun cur e fz hc=>⟨cur,hc,rfl⟩⟩
 refine ⟨h.size,h.defers,?_,?_,h.kg,h.bound,fun r hg hr=>let ⟨B,o,cur,e,fz,h1,h2,h3,h4⟩:=h.room r hg hr;⟨B,o,cur,e,fz,(gW _ _ _).2 h1,h2,h3,h4⟩,?_,oI,?_⟩
 ·intro i;refine (h.slot i).step bp ?_;intro B q o hq hB;refine ⟨?_,rfl⟩;rw [←hq,Place.l9];exact de B q o (by rw [hq];rfl) hB
 ·intro r c x hx gg;exact (h.cell r c x hx gg).step bp (fun B q o hq hB=>⟨de B q o (by rw [hq];rfl) hB,rfl⟩) (fun B o hB=>⟨(gW _ _ _).2 hB,fun cur e fz hc=>⟨cur,hc,rfl,rfl⟩⟩)
 ·intro B l hB;obtain ⟨l0,h0⟩:=hd B l hB;exact h.fu B l0 h0
 ·intro B B' r o o' h1 h2;exact h.fB B B' r o o' ((gW _ _ _).1 h1) ((gW _ _ _).1 h2)
theorem Place.A7 (pl:Place):(⟨pl.k,pl.j,[]⟩:Place).app pl.p=pl:=by cases pl;simp [Place.app]
theorem cg.A9 (M:cg nm N S0 w0 L0 ws a w L) {pl:Place} (hk:pl.k.aT=true) {x:D} {sz:Nat} {rows:List (List D)}
  (hE:((S0.ah ws).E pl.k).cells[pl.j]? = some (.d x)) (hn:eo x pl.p=some (.sl .own sz rows)):∃u,bt w L pl (.sl .own sz rows) u:=by
 obtain ⟨u,hu⟩:=M.rel.afv hk hE;obtain ⟨u',jt⟩:=hu.nav pl.p hn;rw [Place.A7] at jt;exact ⟨u',jt⟩
theorem aqn {t q:Place} (ht:t.k.aT=true) (hq:q.k.aT=false):¬ bE t q:=by
 intro h;rw [h.key.1,ht] at hq;cases hq
theorem Out.freeze (M:cg nm N S0 w0 L0 ws a w L) {pl:Place} (hk:pl.k.aT=true) {x:D} {sz:Nat} {rows:List (List D)}
  (hE:((S0.ah ws).E pl.k).cells[pl.j]? = some (.d x)) (hn:eo x pl.p=some (.sl .own sz rows)) (m:Nat) :
  Out nm N S0 w0 L0 ws (nj ws pl.k (((S0.ah ws).E pl.k).setCell pl.j (.d (eG x pl.p (.sl (.im false) sz (aW rows)))))) a w L (gV pl L) (fun _=>True) m:=by
 refine ⟨M.freeze hk hE hn,?_,fun B q o hq _ hL=>sk hL (aqn hk hq),fun B q o _ _ hL=>(BH hL).1⟩;show Step w w L _ (S0.ah ws).γ ((S0.ah ws).wr { k:=pl.k,v:=_ }).γ;rw [DY];refine ⟨fun B hB=>⟨pw hB,rfl⟩,N1 _ _,?_,fun _ _ _ _ _ _ _=>rfl,fun B r o _ hB=>xa.2 hB⟩;intro B q o hq hγ hL;exact ⟨sk hL (fun hu=>Ei hγ hu.key.1),fun cur e fz hB=>⟨cur,hB,rfl⟩⟩
theorem uD (M:cg nm N S0 w0 L0 ws a w L) {m j:Nat} {c:C} {v:Value} (hc:iQ nm w0 L0 S0.γ w L (S0.ah ws).γ m j c v) {r:C×List Wr}
  (hr:(st ws c).run S0=some r) :
  ∃L',Out nm N S0 w0 L0 ws r.2 a w L L' (fun q=>¬ (q.k = .h m∧q.j=j)) m∧aG nm w L' (S0.ah r.2).γ (.h m) j r.1 v:=by
 have yr:∀c0:C,st ws c0=pure (c0,ws)→iQ nm w0 L0 S0.γ w L (S0.ah ws).γ m j c0 v→(∀pl g sz off len,c0≠.view pl g sz off len)→(st ws c0).run S0=some r→
   ∃L',Out nm N S0 w0 L0 ws r.2 a w L L' (fun q=>¬ (q.k = .h m∧q.j=j)) m∧aG nm w L' (S0.ah r.2).γ (.h m) j r.1 v:=by
  intro c0 h0 h1 xp h2;rw [h0] at h2;simp only [Q.run_pure,ai] at h2;subst h2;refine ⟨L,Out.refl M _ m,?_⟩;cases c0 with
  | view pl g sz off len=>exact absurd rfl (xp pl g sz off len)
  | _=>exact h1
 cases c with
 | view pl g sz off len=>
  simp only [st,Q.run_bind] at hr;cases ho:(ju ws pl g sz).run S0 with
  | none=>simp [ho] at hr
  | some e=>
   obtain ⟨e,x,rows⟩:=e;obtain ⟨rfl,hg,hE,hn⟩:=uu ho;simp only [ho,Option.bind_some,Q.run_bind,Q.lD] at hr;by_cases hle:off+len≤rows.length
   ·simp only [aY hle,bW,Option.bind_some,Q.run_pure,ai] at hr;subst hr;cases hc with
    | view hv hh Qf hV=>
     obtain ⟨u,hu⟩:=M.A9 hh hE hn;refine ⟨gV pl L,(Out.freeze M hh hE hn m).weaken (fun _ _=>trivial),.d (.plain ?_)⟩;exact aqr M.vH (fun B o hL=>M.rows B pl o hh hL) hu (hV hg) hle
   ·simp [hle] at hr
 | c6 pl g aa sz rows=>
  simp only [st,Q.run_bind] at hr;cases ho:(ju ws pl g sz).run S0 with
  | none=>simp [ho] at hr
  | some e=>
   obtain ⟨e,x,dH⟩:=e;obtain ⟨rfl,hg,hE,hn⟩:=uu ho;simp only [ho,Option.bind_some,Q.run_bind,Q.uA,Q.lD] at hr;cases qh:((S0.get (.a pl.k)).g==aa&&fresh ws pl.k) with
   | false=>simp [qh] at hr
   | true=>
    simp only [qh,bW,Option.bind_some,Q.run_pure,ai] at hr;subst hr;simp only [bK,eU] at qh;obtain ⟨g1,g2,_⟩:=I3 (S:=S0) qh.2;cases hc with
    | c6 hv hh Qf ai' hV=>
     have hA:=hV (by rw [g1];exact hg) (by rw [g2];exact qh.1.symm);have O1:=Out.freeze M hh hE hn m;generalize uf:nj ws pl.k (((S0.ah ws).E pl.k).setCell pl.j (.d (eG x pl.p (.sl (.im false) sz (aW dH)))))=fe at *;have zC:∀{q:Place},q.k.aT=true→¬ bE ⟨.h m,j,[]⟩ q:=by
      intro q hq hu;rw [hu.key.1] at hq;simp [Key.aT] at hq
     have Zw:Step w w (gV pl L) (gV ⟨.h m,j,[]⟩ (gV pl L)) (S0.ah fe).γ (S0.ah fe).γ:=by
      refine ⟨fun B hB=>⟨pw hB,rfl⟩,fun _=>bT _,?_,fun _ _ _ _ _ _ _=>rfl,fun B r o _ hB=>xa.2 hB⟩;intro B q o hq _ hL;exact ⟨sk hL (zC hq),fun cur e fz hB=>⟨cur,hB,rfl⟩⟩
     have M2:cg nm N S0 w0 L0 fe a w (gV ⟨.h m,j,[]⟩ (gV pl L)):=by
      refine ⟨O1.mid.rel.aqg (fun B hB=>pw hB) (fun B q o hq hL=>sk hL (zC hq)) (fun B r o=>xa) (fun B l hB=>Yj hB) (Yk O1.mid.rel.eN),O1.mid.dh.trans Zw,O1.mid.mono.trans (Yl _),?_,O1.mid.heap,O1.mid.vH,fun B r o hB=>xa.2 (O1.mid.boxes B r o hB)⟩;intro B q o hq hL;exact O1.mid.rows B q o hq (BH hL).1
     refine ⟨_,⟨M2,O1.dh.trans Zw,?_,?_⟩,?_⟩
     ·intro B q o hq hK hL;exact sk (O1.Cu B q o hq trivial hL) (fun hu=>hK hu.key)
     ·intro B q o hq xq hL;exact O1.xW B q o hq xq (BH hL).1
     ·refine .d (.plain ?_);rcases hA with ⟨rfl,a0,rfl⟩ | ⟨B,o,cap,cur,e,fz,n0,val,rfl,bf,hL,hB,cU,fQ,dL,dG,cm,hd,dX⟩
      ·simp only [aW];exact .mD
      ·have fU:gV ⟨.h m,j,[]⟩ (gV pl L) B=some .bh:=by
        rcases hL with hL | hL
        ·exact pw (xb hL (bE.refl _))
        ·by_cases hu:bE pl ⟨.h m,j,[]⟩
         ·exact pw (xb hL hu)
         ·exact xb (sk hL hu) (bE.refl _)
       rw [←An rows];cases vA:rows with
       | nil=>simp only [aW,jB];exact .mD
       | cons r0 t0=>
        rw [←vA];refine .pl (cur:=cur) (e:=e) (fz:=fz) val (by rw [vA];simp [aW]) bf (by rw [An];exact dL) fU hB ?_ ?_ ?_
        ·intro r en;rw [Dg] at en;obtain ⟨r1,h1,rfl⟩:=iz.1 en;simpa using fQ r1 h1
        ·intro i c x hx;rw [Bi] at hx;cases hy:cellOf rows i c with
         | none=>simp [hy] at hx
         | some y=>exact cm i c y hy
        ·intro i c x hx;rw [Bi] at hx;cases hy:cellOf rows i c with
         | none=>simp [hy] at hx
         | some y=>
          simp only [hy,fh,ai] at hx;subst hx;refine bt.freeze (fun q=>bE pl q∨bE ⟨.h m,j,[]⟩ q) (fun q i c h=>Or.imp (fun h=>h.sub i c) (fun h=>h.sub i c) h) (fun B hB=>⟨pw (pw hB),rfl⟩) ?_ (hd i c y hy) ?_
          ·intro B q o hq hL;refine ⟨?_,rfl⟩;by_cases vz:bE pl q
           ·exact pw (xb hL vz)
           ·exact xb (sk hL vz) (hq.resolve_left vz)
          ·split
           ·exact .inl ((bE.refl pl).sub i c)
           ·exact .inr ((bE.refl _).sub i c)
 | eE=>simp [st] at hr
 | bu=>simp [st] at hr
 | mp=>simp [st] at hr
 | gi=>simp [st] at hr
 | dead=>simp [st] at hr
 | d x=>exact yr _ rfl hc (by simp) hr
 | ptr r g c=>exact yr _ rfl hc (by simp) hr
 | pp cells=>exact yr _ rfl hc (by simp) hr
 | fn f b d=>exact yr _ rfl hc (by simp) hr
 | cz=>exact yr _ rfl hc (by simp) hr
 | eX=>exact yr _ rfl hc (by simp) hr
 | fS=>exact yr _ rfl hc (by simp) hr
 | fm=>exact yr _ rfl hc (by simp) hr
end
end
section
section
variable {nm:FuncId→Option Nat} {N:Nat} {S0:St} {w0:World} {L0:aw} {ws:List Wr} {a:Act} {w:World} {L:aw}
theorem iQ.rep {γ0 γ:Key→Nat} (hs:Step w0 w L0 L γ0 γ) {m j:Nat} {c:C} {v:Value} (h:iQ nm w0 L0 γ0 w L γ m j c v):aG nm w L γ (.h m) j c v:=by
 cases c with
 | view=>exact aG.rG hs h rfl _ _
 | _=>exact h
theorem mO.rep {γ0 γ:Key→Nat} (hs:Step w0 w L0 L γ0 γ) {m:Nat} {x:V} {v:Value} (h:mO nm w0 L0 γ0 w L γ m x v):bD nm w L γ (.h m) x v:=by
 cases x with
 | one c=>exact .one (iQ.rep hs h)
 | agg cs=>
  obtain ⟨vs,rfl,hl,hc⟩:=h;exact .agg hl fun j c u h1 h2=>(hc j c u h1 h2).rep hs
 | aq vs=>exact h
theorem MG {m:Nat}:∀(cs:List C) {ws:List Wr} {L:aw} (M:cg nm N S0 w0 L0 ws a w L) (j0:Nat) (vs:Nat→Value)
  (hc:∀j c,cs[j]? = some c→iQ nm w0 L0 S0.γ w L (S0.ah ws).γ m (j0+j) c (vs (j0+j))) {r:List C×List Wr} (hr:(lE ws cs).run S0=some r),
  ∃L',Out nm N S0 w0 L0 ws r.2 a w L L' (fun q=>¬ (q.k = .h m∧j0≤q.j)) m∧r.1.length=cs.length∧
   ∀j c,r.1[j]? = some c→aG nm w L' (S0.ah r.2).γ (.h m) (j0+j) c (vs (j0+j))
 | [],ws,L,M,j0,vs,hc,r,hr=>by
  simp only [lE,Q.run_pure,ai] at hr;subst hr;exact ⟨L,Out.refl M _ m,rfl,fun j c h=>by simp at h⟩
 | c::cs,ws,L,M,j0,vs,hc,r,hr=>by
  simp only [lE,Q.run_bind] at hr;cases h1:(st ws c).run S0 with
  | none=>simp [h1] at hr
  | some r1=>
   obtain ⟨c1,fe⟩:=r1;simp only [h1,Option.bind_some,Q.run_bind] at hr;cases h2:(lE fe cs).run S0 with
   | none=>simp [h2] at hr
   | some r2=>
    obtain ⟨Bo,fy⟩:=r2;simp only [h2,Option.bind_some,Q.run_pure,ai] at hr;subst hr;obtain ⟨L1,O1,R1⟩:=uD M (by simpa using hc 0 c rfl) h1
    obtain ⟨L2, O2, hl, R2⟩ := MG cs O1.mid (j0 + 1) vs (fun j c h => by
      have := hc (j + 1) c (by simpa using h)
      have := this.keep O1.keep (fun p => by simp)
      rwa [show j0 + 1 + j = j0 + (j + 1) by omega]) h2
    refine ⟨L2,(O1.weaken ?_).trans (O2.weaken ?_),by simp [hl],?_⟩
    ·intro q hq h;exact hq ⟨h.1,by omega⟩
    ·intro q hq h;exact hq ⟨h.1,by omega⟩
    ·intro j c hj;cases j with
     | zero=>
      simp only [kC,ai] at hj;subst hj;exact R1.keep O2.keep (fun p=>by simp)
     | succ j=>
      have:=R2 j c (by simpa using hj);rwa [show j0+1+j=j0+(j+1) by omega] at this
structure oh (nm:FuncId→Option Nat) (N:Nat) (S:St) (w0:World) (L0:aw) (a:Act) (w:World) (L:aw):Prop where
 rel:Rel nm N S a w L
 mono:dc w0 w L0 L
 xO:eJ L
theorem cg.done (M:cg nm N S0 w0 L0 ws a w L) {m d:Nat} {x:V} {v:Value} (hd:d < N) (hv:bD nm w L (S0.ah ws).γ (.h m) x v) :
  ∃L',oh nm N (S0.ah ({ k:=.s d,v:=x } :: ws)) w0 L0 (a.put (some d) v) w L':=by
 obtain ⟨L',h1,h2,h3,_⟩:=M.rel.adn hd hv;exact ⟨L',h1,M.mono.trans h3,h2⟩
end
end
section
section
variable {nm:FuncId→Option Nat} {N:Nat} {S0:St} {w0:World} {L0:aw} {ws:List Wr} {a:Act} {w:World} {L:aw}
theorem Out.an9 (M:cg nm N S0 w0 L0 ws a w L) {e8:List Wr} {L':aw} {K:Place→Prop} {m:Nat}
  (qp:Rel nm N (S0.ah e8) a w L') (qZ:∀k,(S0.ah ws).γ k≤(S0.ah e8).γ k)
  (fU:∀B,L B=some .bh→L' B=some .bh) (vw:∀B,L B=none→L' B=none)
  (gW:∀B r o,L B=some (.box r o)→L' B=some (.box r o))
  (cK:∀B q o,q.k.aT=true→(S0.ah e8).γ q.k=(S0.ah ws).γ q.k→L B=some (.row q o)→L' B=some (.row q o))
  (vg:∀B q o,q.k.aT=true→L' B=some (.row q o)→L B=some (.row q o))
  (hK:∀B q o,q.k.aT=false→K q→L B=some (.row q o)→L' B=some (.row q o))
  (hm:∀B q o,q.k.aT=false→q.k≠.h m→L' B=some (.row q o)→L B=some (.row q o)) :
  Out nm N S0 w0 L0 ws e8 a w L L' K m:=by
 have bp:Step w w L L' (S0.ah ws).γ (S0.ah e8).γ:=
  ⟨fun B hB=>⟨fU B hB,rfl⟩,qZ,fun B q o hq hγ hL=>⟨cK B q o hq hγ hL,fun cur e fz hB=>⟨cur,hB,rfl⟩⟩,fun _ _ _ _ _ _ _=>rfl,fun B r o _ hB=>gW B r o hB⟩
 refine ⟨⟨qp,M.dh.trans bp,M.mono.trans ⟨rfl,rfl,rfl,bT _,fun B hB=>⟨fU B hB,rfl⟩,fun B _ hB=>⟨vw B hB,rfl⟩,fun B i o hB=>gW B _ o hB⟩,?_,M.heap,M.vH,fun B r o hB=>gW B r o (M.boxes B r o hB)⟩,bp,hK,hm⟩;intro B q o hq hL;exact M.rows B q o hq (vg B q o hq hL)
theorem Mr {f:Place→Option Place} {B:Nat} (h:L B=none):cG f L B=none:=by simp [cG,h]
theorem aka {k:Key} (hk:k.aT=true):(∃i,k = .s i)∨∃r c,k = .b r c:=by
 cases k with
 | s i=>exact .inl ⟨i,rfl⟩
 | b r c=>exact .inr ⟨r,c,rfl⟩
 | _=>simp [Key.aT] at hk
def Place.rest (pl q:Place):List (Nat×Nat):=q.p.drop pl.p.length
theorem Place.Mu (pl:Place) (r:List (Nat×Nat)):pl.rest (pl.app r)=r:=by simp [Place.rest,Place.app]
open Classical in
noncomputable def je (pl:Place) (m j:Nat) (jM:List (Nat×Nat)→Bool):Place→Option Place:=fun q=>
 if bE pl q then (if jM (pl.rest q)=true then some ⟨.h m,j,pl.rest q⟩ else none)
 else if q.k = .h m∧q.j=j then (if jM q.p=true then none else some q) else some q
theorem bE.eq {pl q:Place} (h:bE pl q):q=pl.app (pl.rest q):=by
 obtain ⟨r,rfl⟩:=h;rw [Place.Mu]
theorem Ep {pl:Place} {m j:Nat} {jM:List (Nat×Nat)→Bool} {q:Place} (h1:¬ bE pl q) (h2:¬ (q.k = .h m∧q.j=j)):je pl m j jM q=some q:=by
 unfold je;rw [aB h1,aB h2]
theorem Is {pl:Place} {m j:Nat} {jM:List (Nat×Nat)→Bool} {q:Place} (h1:bE pl q) (h2:jM (pl.rest q)=true):je pl m j jM q=some ⟨.h m,j,pl.rest q⟩:=by
 unfold je;rw [aJ h1,aJ h2]
theorem WY {pl:Place} {m j:Nat} {jM:List (Nat×Nat)→Bool} {q:Place} (h1:¬ bE pl q) (h2:q.k = .h m∧q.j=j) (h3:jM q.p=false):je pl m j jM q=some q:=by
 unfold je;rw [aB h1,aJ h2,aB (by simp [h3])]
theorem Ox {pl:Place} {m j:Nat} {jM:List (Nat×Nat)→Bool} {q t:Place} (h:je pl m j jM q=some t) :
  (bE pl q∧jM (pl.rest q)=true∧t=⟨.h m,j,pl.rest q⟩)∨(¬ bE pl q∧(q.k = .h m∧q.j=j)∧jM q.p=false∧t=q)∨(¬ bE pl q∧¬ (q.k = .h m∧q.j=j)∧t=q):=by
 unfold je at h;by_cases hu:bE pl q
 ·rw [aJ hu] at h;by_cases hs:jM (pl.rest q)=true
  ·rw [aJ hs] at h;exact .inl ⟨hu,hs,by simpa using h.symm⟩
  ·rw [aB hs] at h;cases h
 ·rw [aB hu] at h;by_cases hm:q.k = .h m∧q.j=j
  ·rw [aJ hm] at h;by_cases hs:jM q.p=true
   ·rw [aJ hs] at h;cases h
   ·rw [aB hs] at h;exact .inr (.inl ⟨hu,hm,by simpa using hs,by simpa using h.symm⟩)
  ·rw [aB hm] at h;exact .inr (.inr ⟨hu,hm,by simpa using h.symm⟩)
theorem afw (pl:Place) (m j:Nat) (jM:List (Nat×Nat)→Bool) {q q' t:Place} (h1:je pl m j jM q=some t) (h2:je pl m j jM q'=some t):q=q':=by
 rcases Ox h1 with ⟨a1,a2,a3⟩ | ⟨a1,a2,a3,a4⟩ | ⟨a1,a2,a3⟩<;>rcases Ox h2 with ⟨b1,b2,b3⟩ | ⟨b1,b2,b3,b4⟩ | ⟨b1,b2,b3⟩
 ·rw [a3] at b3;simp only [Place.mk.injEq,lh] at b3;rw [a1.eq,b1.eq,b3]
 ·rw [←b4,a3] at b3;simp only at b3;rw [a2] at b3;cases b3
 ·exact absurd (by rw [←b3,a3];exact ⟨rfl,rfl⟩) b2
 ·rw [←a4,b3] at a3;simp only at a3;rw [b2] at a3;cases a3
 ·rw [←a4,←b4]
 ·exact absurd (by rw [←b3,a4];exact a2) b2
 ·exact absurd (by rw [←a3,b3];exact ⟨rfl,rfl⟩) a2
 ·exact absurd (by rw [←a3,b4];exact b2) a2
 ·rw [←a3,←b3]
theorem WX {pl:Place} {m j:Nat} {jM:List (Nat×Nat)→Bool} {q t:Place} (h1:je pl m j jM q=some t) (h2:¬ (t.k = .h m∧t.j=j)):q=t∧¬ bE pl q:=by
 rcases Ox h1 with ⟨a1,a2,a3⟩ | ⟨a1,a2,a3,a4⟩ | ⟨a1,a2,a3⟩
 ·exact absurd (by rw [a3];exact ⟨rfl,rfl⟩) h2
 ·exact absurd (by rw [a4];exact a2) h2
 ·exact ⟨a3.symm,a1⟩
theorem cg.ES (M:cg nm N S0 w0 L0 ws a w L) {m j:Nat} {pl:Place} (hk:pl.k.aT=true) {sz:Nat} {rows:List (List D)} {x:D} (b:List (Nat×Nat)→Bool)
  (hE:((S0.ah ws).E pl.k).cells[pl.j]? = some (.d x)) (hn:eo x pl.p=some (.sl .own sz rows)) :
  Out nm N S0 w0 L0 ws (nj ws pl.k (sN ((S0.ah ws).E pl.k) pl x)) a w L (cG (je pl m j b) L) (fun q=>¬ (q.k = .h m∧q.j=j)) m:=by
 have arw:pl.k≠.h m:=fun e=>by rw [e] at hk;simp [Key.aT] at hk
 have oI:lZ (cG (je pl m j b) L):=G3 M.rel.eN (fun q q' t B B' o o' h1 h2 _ _=>afw pl m j b h1 h2);have Fs:∀{q:Place},q.k.aT=true→¬ (q.k = .h m∧q.j=j):=fun hq h=>by rw [h.1] at hq;simp [Key.aT] at hq
 have qp:Rel nm N ((S0.ah ws).wr { k:=pl.k,v:=sN ((S0.ah ws).E pl.k) pl x }) a w (cG (je pl m j b) L):=by
  refine M.rel.ac3 (aka hk) hE (by simp) (fun B hB=>jL.2 hB) ?_ ?_ (fun B r o=>jv) (fun B l hB=>G2 hB) oI ?_
  ·intro B q o hq FA hL;exact gL hL (Ep (fun h=>hq h.key.1) (Fs FA))
  ·intro B q o hq Fz hL;exact gL hL (Ep (fun h=>Fz h.key.2) (Fs (by rw [hq];exact hk)))
  ·intro u hu;cases hu with
   | d hd=>
    refine .d ?_;have BT:(⟨pl.k,pl.j,[]⟩:Place).app pl.p=pl:=Place.A7 pl;refine bt.subst pl.p hd hn (fun B hB=>⟨jL.2 hB,rfl⟩) ?_ ?_ rfl
    ·intro B' q o' h1 h2 h3;rw [BT] at h2;exact gL h3 (Ep h2 (Fs (by rw [h1.key.1];exact hk)))
    ·intro u' jt;exact .plain (.dead jt.vV)
 refine Out.an9 M qp (fun k=>St.pZ _ _ k) (fun B hB=>jL.2 hB) (fun B hB=>Mr hB) (fun B r o hB=>jv.2 hB) ?_ ?_ ?_ ?_
 ·intro B q o hq hγ hL;have:q.k≠pl.k:=by
   intro e;rw [e] at hγ;simp only [nj,St.ah,DY,bump,bW] at hγ;omega
  exact gL hL (Ep (fun h=>this h.key.1) (Fs hq))
 ·intro B q o hq hL;obtain ⟨q0,h1,h2⟩:=oS hL;have:=(WX h2 (Fs hq)).1;rwa [this] at h1
 ·intro B q o hq hK hL;refine gL hL (Ep (fun h=>?_) hK);rw [h.key.1,hk] at hq;cases hq
 ·intro B q o hq xq hL;obtain ⟨q0,h1,h2⟩:=oS hL;have:=(WX h2 (fun h=>xq h.1)).1;rwa [this] at h1
theorem bE.Tc {pl q:Place} (h:bE pl q) (i c:Nat):pl.rest (q.sub i c)=pl.rest q++[(i,c)]:=by
 obtain ⟨r,rfl⟩:=h;rw [←Place.Ec,Place.Mu,Place.Mu]
theorem Aw (pl:Place):pl.rest pl=[]:=by have:=Place.Mu pl [];rwa [Place.A6] at this
theorem acB (pl:Place) (i c:Nat):pl.rest (pl.sub i c)=[(i,c)]:=by rw [(bE.refl pl).Tc,Aw];rfl
def ky (b:Bool) (n0:Nat):List (Nat×Nat)→Bool
 | []=>b
 | (i,_)::_=>decide (i < n0)
theorem aa7 {pl:Place} {m j:Nat} {b:Bool} {n0 i c:Nat} {x:D} {u:Value} (hi:i < n0) (h:bt w L (pl.sub i c) x u) :
  bt w (cG (je pl m j (ky b n0)) L) ((⟨.h m,j,[]⟩:Place).sub i c) x u:=by
 have:=bt.move (w':=w) (L':=cG (je pl m j (ky b n0)) L) (fun q=>⟨.h m,j,pl.rest q⟩) (fun q=>bE pl q∧∃r,pl.rest q=(i,c)::r)
  (fun q i' c' h=>⟨h.1.sub i' c',by obtain ⟨r,hr⟩:=h.2;rw [h.1.Tc,hr];exact ⟨_,rfl⟩⟩)
  (fun q i c h=>by rw [h.1.Tc];rfl) (fun B hB=>⟨jL.2 hB,rfl⟩)
  (fun B q o hq hL=>⟨gL hL (Is hq.1 (by obtain ⟨r,hr⟩:=hq.2;rw [hr];simp [ky,hi])),rfl⟩) h ⟨(bE.refl pl).sub i c,[],acB pl i c⟩
 rwa [acB] at this
theorem apR {pl:Place} (hp:pl.k.aT=true) {m j:Nat} {b:Bool} {n0 i c:Nat} {x:D} {u:Value} (hi:¬ i < n0) (h:bt w L ((⟨.h m,j,[]⟩:Place).sub i c) x u) :
  bt w (cG (je pl m j (ky b n0)) L) ((⟨.h m,j,[]⟩:Place).sub i c) x u:=by
 refine bt.move (w':=w) (L':=cG (je pl m j (ky b n0)) L) id (fun q=>(q.k = .h m∧q.j=j)∧∃r,q.p=(i,c)::r)
  (fun q i' c' h=>⟨h.1,by obtain ⟨r,hr⟩:=h.2;exact ⟨r++[(i',c')],by simp [Place.sub,hr]⟩⟩)
  (fun _ _ _ _=>rfl) (fun B hB=>⟨jL.2 hB,rfl⟩)
  (fun B q o hq hL=>⟨gL hL (WY (fun hu=>?_) hq.1 (by obtain ⟨r,hr⟩:=hq.2;rw [hr];simp [ky,hi])),rfl⟩) h ⟨⟨rfl,rfl⟩,[],rfl⟩
 rw [←hu.key.1,hq.1.1] at hp;simp [Key.aT] at hp
theorem cg.anW (M:cg nm N S0 w0 L0 ws a w L) {m j:Nat} {pl:Place} (hk:pl.k.aT=true) {sz:Nat} {rows:List (List D)} {v:Value} {x:D}
  (hE:((S0.ah ws).E pl.k).cells[pl.j]? = some (.d x)) (hn:eo x pl.p=some (.sl .own sz rows)) (hV:A1 w0 L0 pl sz 0 rows.length v)
  (hr:rows≠[]) :
  ∃L',Out nm N S0 w0 L0 ws (nj ws pl.k (sN ((S0.ah ws).E pl.k) pl x)) a w L L' (fun q=>¬ (q.k = .h m∧q.j=j)) m∧
   aG nm w L' (S0.ah (nj ws pl.k (sN ((S0.ah ws).E pl.k) pl x))).γ (.h m) j (.d (.sl .own sz rows)) v:=by
 refine ⟨_,M.ES hk (ky true rows.length) hE hn,.d ?_⟩;obtain ⟨u,hu⟩:=M.A9 hk hE hn;rcases hV with ⟨h0,a0,rfl⟩ | ⟨B,o,cap,cur,e,fz,rfl,bf,p9,hB0,cU,hle,dG,_⟩
 ·exact absurd (pW.1 h0) hr
 ·have hL:L B=some (.row pl o):=by
   rcases hu.nU with ⟨h1,_⟩ | ⟨B',o',yT,dQ,e',tR,val,_,_,fj,_⟩
   ·exact absurd h1 hr
   ·have YB:=M.rows B' pl o' hk fj;obtain rfl:=M.vH B' B pl o' o YB p9;obtain rfl:o'=o:=by rw [YB] at p9;simpa using p9
    exact fj
  have hB:w.heap[B]? = some (.cells cur e fz):=(M.heap B _ p9).trans hB0;simp only [U5,jC] at dG ⊢;have oC:cG (je pl m j (ky true rows.length)) L B=some (.row ⟨.h m,j,[]⟩ o):=by
   have:=gL hL (Is (m:=m) (j:=j) (jM:=ky true rows.length) (bE.refl pl) (by rw [Aw];rfl));rwa [Aw] at this
  rcases hu.nU with ⟨rfl,_⟩ | ⟨B',o',yT,dQ,e',tR,val,_,_,fj,dA,_,fQ,PZ,QK,cm,hr,dX⟩
  ·exact absurd rfl hr
  ·obtain rfl:=M.rel.eN B' B pl o' o fj hL;obtain rfl:o'=o:=by rw [fj] at hL;simpa using hL
   obtain ⟨rfl,rfl,rfl⟩:dQ=cur∧e'=e∧tR=fz:=by rw [dA] at hB;simpa using hB
   refine .own val bf oC hB cU fQ hle dG cm ?_ dX;intro i c x hx;exact aa7 (oq fQ hx).1 (hr i c x hx)
theorem Tx (M:cg nm N S0 w0 L0 ws a w L) {m j:Nat} {pl:Place} {g aa sz:Nat} {rows:List (List D)} {v:Value}
  (hc:iQ nm w0 L0 S0.γ w L (S0.ah ws).γ m j (.c6 pl g aa sz rows) v) {r:C×List Wr}
  (hr:(settle ws pl g aa sz rows).run S0=some r) :
  ∃L',Out nm N S0 w0 L0 ws r.2 a w L L' (fun q=>¬ (q.k = .h m∧q.j=j)) m∧aG nm w L' (S0.ah r.2).γ (.h m) j r.1 v:=by
 simp only [settle,Q.run_bind] at hr;cases ho:(ju ws pl g sz).run S0 with
 | none=>simp [ho] at hr
 | some e=>
  obtain ⟨e,x,dH⟩:=e;obtain ⟨rfl,hg,hE,hn⟩:=uu ho;simp only [ho,Option.bind_some,Q.run_bind,Q.uA,Q.lD] at hr;cases qh:((S0.get (.a pl.k)).g==aa&&fresh ws pl.k) with
  | false=>simp [qh] at hr
  | true=>
   simp only [qh,bW,Option.bind_some,Q.run_pure,ai] at hr;subst hr;simp only [bK,eU] at qh;obtain ⟨g1,g2,_⟩:=I3 (S:=S0) qh.2;cases hc with
   | c6 hv hh Qf ai' hV=>
    have hA:=hV (by rw [g1];exact hg) (by rw [g2];exact qh.1.symm);rcases hA with ⟨rfl,a0,rfl⟩ | ⟨B,o,cap,cur,e,fz,n0,val,rfl,bf,hL,hB,cU,fQ,dL,dG,cm,hd,dX⟩
    ·exact ⟨_,M.ES hh (ky true 0) hE hn,.d .jk⟩
    ·have kO:∀(b:Bool) i c x,cellOf rows i c=some x→bt w (cG (je pl m j (ky b n0)) L) ((⟨.h m,j,[]⟩:Place).sub i c) x (val i c):=by
      intro b i c x hx;have h0:=hd i c x hx;by_cases hi:i < n0
      ·rw [aJ hi] at h0;exact aa7 hi h0
      ·rw [aB hi] at h0;exact apR hh hi h0
     rcases hL with hL | hL
     ·have oC:cG (je pl m j (ky true n0)) L B=some (.row ⟨.h m,j,[]⟩ o):=by
       have:=gL hL (Is (m:=m) (j:=j) (jM:=ky true n0) (bE.refl pl) (by rw [Aw];rfl));rwa [Aw] at this
      exact ⟨_,M.ES hh (ky true n0) hE hn,.d (.own val bf oC hB cU fQ dL dG cm (kO true) dX)⟩
     ·have oC:cG (je pl m j (ky false n0)) L B=some (.row ⟨.h m,j,[]⟩ o):=by
       refine gL hL (WY (fun hu=>?_) ⟨rfl,rfl⟩ rfl);have:=hu.key.1;simp only at this;rw [←this] at hh;simp [Key.aT] at hh
      exact ⟨_,M.ES hh (ky false n0) hE hn,.d (.own val bf oC hB cU fQ dL dG cm (kO false) dX)⟩
theorem TI (M:cg nm N S0 w0 L0 ws a w L) {m j:Nat} {P:Place} {c:C} {v:Value} (hc:iQ nm w0 L0 S0.γ w L (S0.ah ws).γ m j c v) {r:C×List Wr}
  (hr:(oV ws P c).run S0=some r) :
  ∃L',Out nm N S0 w0 L0 ws r.2 a w L L' (fun q=>¬ (q.k = .h m∧q.j=j)) m∧aG nm w L' (S0.ah r.2).γ (.h m) j r.1 v:=by
 cases c with
 | c6 pl g aa sz rows=>
  simp only [oV] at hr;split at hr
  ·exact Tx M hc hr
  ·exact uD M hc hr
 | _=>exact uD M hc hr
theorem TP (M:cg nm N S0 w0 L0 ws a w L) {m j:Nat} {P:Place} {c:C} {v:Value} (hc:iQ nm w0 L0 S0.γ w L (S0.ah ws).γ m j c v) {r:C×List Wr}
  (hr:(ta ws P c).run S0=some r) :
  ∃L',Out nm N S0 w0 L0 ws r.2 a w L L' (fun q=>¬ (q.k = .h m∧q.j=j)) m∧aG nm w L' (S0.ah r.2).γ (.h m) j r.1 v:=by
 cases c with
 | c6 pl g aa sz rows=>
  simp only [ta] at hr;split at hr
  ·exact Tx M hc hr
  ·exact TI M hc hr
 | view pl g sz off len=>
  simp only [ta,Q.run_bind] at hr;cases ho:(ju ws pl g sz).run S0 with
  | none=>simp [ho] at hr
  | some e=>
   obtain ⟨e,x,rows⟩:=e;obtain ⟨rfl,hg,hE,hn⟩:=uu ho;simp only [ho,Option.bind_some,Q.run_ite,Q.MD] at hr;split at hr
   ·rename_i iF;simp only [bK,eU,wL] at iF;obtain ⟨_,⟨h1,h2⟩,h3⟩:=iF;simp only [Q.run_pure,ai] at hr;subst hr;cases hc with
    | view hv hh Qf hV=>
     refine M.anW hh hE hn (by have:=hV hg;rwa [h1,h2] at this) ?_;intro he;simp [he] at h3
   ·exact uD M hc hr
 | _=>exact uD M hc hr
end
end
end Go.ax
