/- A part of the proof. -/
import GoSem.Core.Code
import GoSem.Core.Machine
import Derived.Calls
import Derived.Laws.Sem
import Derived.Laws.World
set_option linter.all false
section
namespace Go
abbrev aj:=@Option.some.injEq
abbrev cA:=@List.getElem?_eq_some_iff
abbrev aX:=@decide_eq_true
abbrev bQ:=@List.getElem?_map
abbrev bK:=@Bool.and_eq_true
abbrev bM:=@List.getElem_mem
abbrev bR:=@decide_eq_false
abbrev cf:=@List.length_map
abbrev fq:=@Option.bind_eq_some_iff
abbrev dL:=@List.length_append
abbrev ej:=@List.append_assoc
abbrev dA:=@List.mem_append
abbrev fp:=@List.mem_of_getElem?
abbrev iB:=@Array.getD_eq_getD_getElem?
abbrev bV:=@Nat.le_refl
abbrev ev:=@List.map_append
abbrev aB:=@if_neg
abbrev de:=@Nat.zero_add
abbrev fB:=@decide_eq_true_eq
abbrev ff:=@Option.map_some
abbrev kD:=@List.getD_eq_getElem?_getD
abbrev aJ:=@if_pos
abbrev ke:=@List.getElem?_eq_getElem
abbrev fX:=@List.length_cons
abbrev lL:=@Array.getElem?_eq_some_iff
abbrev kE:=@List.getElem?_cons_zero
abbrev fK:=@Prod.mk.injEq
abbrev mS:=@List.getElem?_append_left
abbrev kF:=@List.mem_cons_of_mem
abbrev fY:=@List.map_cons
abbrev kf:=@List.mem_cons_self
abbrev oj:=@Array.getElem?_eq_getElem
abbrev mU:=@Nat.eq_of_beq_eq_true
abbrev eW:=@beq_iff_eq
abbrev lk:=@of_decide_eq_false
abbrev bW:=@if_true
abbrev gU:=@List.mem_cons
abbrev pX:=@List.getElem?_append_right
abbrev jE:=@List.length_nil
abbrev dF:=@if_false
abbrev pZ:=@List.length_eq_zero_iff
abbrev iD:=@List.mem_map
abbrev lM:=@List.all_eq_true
abbrev oo:=@beq_eq_false_iff_ne
abbrev je:=@Nat.le_trans
abbrev pY:=@List.getElem?_eq_none
abbrev jn:=@Nat.add_zero
abbrev nJ:=@Bool.not_eq_true'
abbrev p6:=@Nat.mul_le_mul_right
abbrev tG:=@List.drop_eq_getElem_cons
abbrev tL:=@Nat.exists_eq_add_of_le'
abbrev nK:=@List.not_mem_nil
abbrev qS:=@List.getElem?_set_ne
abbrev mR:=@List.append_nil
abbrev wR:=@Array.getElem?_setIfInBounds
abbrev yJ:=@Array.getElem?_setIfInBounds_ne
abbrev mT:=@List.mapM_cons
abbrev fU:=@congrArg
abbrev r6:=@Bool.false_eq_true
abbrev qQ:=@List.cons_append
abbrev uU:=@List.getElem?_of_mem
abbrev lN:=@Nat.add_mul
abbrev tJ:=@List.mem_singleton
abbrev tH:=@List.getElem?_drop
abbrev yS:=@Option.isSome_iff_exists
abbrev yN:=@List.getElem?_take_of_lt
abbrev qR:=@List.cons.injEq
abbrev tN:=@of_decide_eq_true
abbrev tK:=@List.take_add_one
abbrev yL:=@List.getElem?_cons_succ
abbrev AZ:=@Array.getElem?_append_left
abbrev wT:=@List.getLast?_append
abbrev yM:=@List.getElem?_set_self
abbrev p5:=@Nat.add_assoc
abbrev tM:=@Option.some.inj
abbrev tI:=@List.mem_range
abbrev uW:=@Nat.le_antisymm
abbrev uV:=@List.nil_append
abbrev A0:=@Array.getElem?_modify
abbrev A4:=@List.mem_of_mem_take
abbrev ll:=@true_and
abbrev wS:=@Bool.or_eq_true
abbrev DX:=@List.drop_eq_nil_of_le
abbrev DW:=@Array.getElem?_toList
abbrev yO:=@List.length_set
abbrev nL:=@or_false
abbrev DZ:=@List.getElem_of_mem
abbrev A5:=@List.take_length
abbrev A1:=@List.length_take
abbrev yK:=@List.drop_zero
abbrev r5:=@Array.ext'
abbrev HJ:=@List.take_of_length_le
abbrev HB:=@List.append_eq_nil_iff
abbrev uX:=@Nat.mul_one
abbrev yP:=@List.sum_cons
abbrev DY:=@List.flatMap_cons
abbrev M':=@Int.tdiv_eq_ediv_of_nonneg
abbrev HF:=@List.mem_append_left
abbrev HC:=@List.count_le_length
abbrev D2:=@beq_self_eq_true
abbrev HE:=@List.getElem?_range
abbrev yQ:=@Nat.lt_or_ge
abbrev HL:=@Nat.lt_of_lt_of_le
abbrev HA:=@Array.getElem?_map
abbrev Ng:=@List.length_eq_one_iff
abbrev M9:=@Array.getElem?_eq_none
abbrev yR:=@Nat.zero_le
abbrev HG:=@List.nodup_append
abbrev A6:=@Nat.sub_zero
abbrev A3:=@List.map_set
abbrev A2:=@List.map_nil
abbrev HM:=@Nat.mod_eq_of_lt
abbrev Nk:=@List.pairwise_append
abbrev Ni:=@List.mem_of_mem_drop
abbrev UP:=@Array.getElem?_append_right
abbrev UX:=@Int.tmod_eq_emod_of_nonneg
abbrev Np:=@Nat.pos_of_ne_zero
abbrev Nn:=@Nat.eq_zero_or_pos
abbrev Nd:=@List.getElem?_take
abbrev Nb:=@List.count_eq_zero
abbrev Vl:=@Option.isNone_iff_eq_none
abbrev HK:=@List.take_zero
abbrev Va:=@List.mem_or_eq_of_mem_set
abbrev U5:=@List.getElem?_eq_none_iff
abbrev UW:=@Classical.byContradiction
abbrev Nq:=@not_false_eq_true
abbrev Nc:=@List.getElem?_set
abbrev Na:=@Int.toNat_natCast
abbrev Vo:=@decide_eq_false_iff_not
abbrev U6:=@List.getElem?_replicate
abbrev Nh:=@List.mem_flatMap
abbrev Nf:=@List.length_drop
abbrev UQ:=@Array.getElem?_extract
abbrev HN:=@Nat.mul_comm
abbrev Nl:=@List.range_succ
abbrev Nj:=@List.nodup_cons
abbrev U8:=@List.length_replicate
abbrev D3:=@bne_iff_ne
abbrev D0:=@Nat.mod_lt
abbrev Vm:=@bne_eq_false_iff_eq
abbrev Vc:=@List.replicate_succ
abbrev U9:=@List.map_congr_left
abbrev U3:=@List.flatMap_append
abbrev US:=@Array.length_toList
abbrev UR:=@Array.getElem?_push
abbrev Vg:=@Nat.lt_of_le_of_lt
abbrev Vb:=@List.pairwise_cons
abbrev UY:=@List.countP_append
abbrev UO:=@Array.foldl_toList
abbrev UN:=@Array.all_eq_true'
abbrev U7:=@List.length_range
abbrev U2:=@List.ext_getElem?
abbrev UZ:=@List.count_append
abbrev Vn:=@decide_eq_decide
abbrev HO:=@cond_true
abbrev U4:=@List.foldl_cons
abbrev U0:=@List.count_cons
abbrev Vh:=@Nat.mul_le_mul
abbrev aeY:=@List.getElem?_zip_eq_some
abbrev U1:=@List.drop_drop
abbrev aeV:=@Array.mapM_eq_mapM_toList
abbrev aeX:=@List.eq_of_mem_replicate
abbrev aeU:=@Array.getElem?_replicate
abbrev Vf:=@Nat.lt_irrefl
abbrev UU:=@Bool.not_true
abbrev UT:=@Bool.false_or
abbrev ae1:=@List.range_succ_eq_map
abbrev ae0:=@List.pairwise_lt_range
abbrev aeW:=@ByteArray.data_extract
abbrev Vk:=@Nat.zero_mul
abbrev Vj:=@Nat.sub_self
abbrev Vi:=@Nat.pow_succ
abbrev ae3:=@Nat.le_of_ble_eq_true
abbrev Ve:=@List.sum_nil
abbrev Vd:=@List.set_set
abbrev ae2:=@List.set_getElem_self
abbrev aeZ:=@List.mem_append_right
abbrev U':=@List.map_map
end Go
namespace Go.ax
inductive Tag where | im (nil:Bool) | own
 deriving DecidableEq
inductive D where
 | int (k:IntKind) (n:Int)
 | bool (b:Bool)
 | str (s:List UInt8)
 | sl (t:Tag) (sz:Nat) (rows:List (List D))
 | dead
 deriving Inhabited
def xO:D→Bool
 | .int .u8 _=>true
 | _=>false
def tw:List D→Bool
 | [d]=>xO d
 | _=>false
def lZ (rows:List (List D)):Bool:=rows.isEmpty||rows.any fun r=>!tw r
def fS (bytes:Nat) (src:List (List D)) (em:Bool):Bool:=lZ src||bytes==1
def AQ (z dJ:D):Bool:=!xO z||xO dJ
def Hp:List D→List D→Bool
 | z::zs,o::os=>AQ z o&&Hp zs os
 | _,_=>true
inductive aI where | e (i:Nat) | l (i:Nat) | g (i:Nat)
 deriving DecidableEq,Inhabited
def aI.iW:aI→Bool
 | .g _=>true
 | _=>false
inductive Key where | s (i:Nat) | b (r:aI) (c:Nat) | r (r:aI) | h (i:Nat) | a (k:Key)
 deriving DecidableEq,Inhabited
structure Place where
 k:Key
 j:Nat
 p:List (Nat×Nat)
 deriving DecidableEq,Inhabited
def Place.sub (pl:Place) (i c:Nat):Place:={ pl with p:=pl.p++[(i,c)] }
inductive C where
 | d (x:D)
 | ptr (r:aI) (g c:Nat)
 | eD (pl:Place) (g sz i c:Nat)
 | pp (cells:List D)
 | view (pl:Place) (g sz off len:Nat)
 | c8 (pl:Place) (g a sz:Nat) (rows:List (List D))
 | fn (f:Nat) (first cap:List C)
 | cE | eX | fR
 | fj
 | bt (t:Nat)
 | mp (x:D)
 | gj (i g:Nat)
 | dead
 deriving Inhabited
inductive V where
 | one (c:C)
 | agg (cs:List C)
 | aq (vs:List V)
 deriving Inhabited
abbrev kM:Nat:=1000000000000
def z8 (n:Nat):Bool:=Nat.ble n 999999999999
theorem JO {n:Nat} (h:z8 n=true):n < kM:=Nat.lt_succ_of_le (ae3 h)
def V.dead:V:=.one .dead
def cp:V→Nat
 | .one (.d (.int _ n))=>n.toNat
 | _=>0
def fy (n:Nat):V:=.one (.d (.int .i64 n))
structure mV where
 v:V
 g:Nat
 deriving Inhabited
abbrev St:=List (Key×mV)
def St.get (S:St) (k:Key):mV:=
 match S with
 | []=>⟨.one .dead,0⟩
 | (k',e)::t=>if k'=k then e else St.get t k
def St.put (S:St) (k:Key) (e:mV):St:=
 match S with
 | []=>[(k,e)]
 | (k',e')::t=>if k'=k then (k,e)::t else (k',e')::St.put t k e
structure Wr where
 k:Key
 v:V
 keep:Bool:=false
 deriving Inhabited
def St.wr (S:St) (x:Wr):St:=S.put x.k ⟨x.v,if x.keep then (S.get x.k).g else (S.get x.k).g+1⟩
def St.ah (S:St):List Wr→St
 | []=>S
 | x::t=>(S.ah t).wr x
def aoU {R:Type} (b:Bool) (k:Unit→Option R):Option R:=bif b then k () else none
def G0 {R:Type} (b:Bool) (k:Bool→Option R):Option R:=bif b then k true else k false
def iY {R:Type} (d:D) (k:Nat→List (List D)→Option R):Option R:=match d with | .sl .own sz rows=>k sz rows | _=>none
def aH {β R:Type} (o:Option β) (k:β→Option R):Option R:=match o with | some b=>k b | none=>none
inductive Q (α:Type):Type 1 where
 | ret (a:α)
 | get (k:Key) (f:mV→Q α)
 | oz {β:Type} (h:(R:Type)→(β→Option R)→Option R) (nat:∀(R:Type) (k:β→Option R),h R k=(h β some).bind k) (f:β→Q α)
 | no
namespace Q
def bind {α β:Type}:Q α→(α→Q β)→Q β
 | .ret a,f=>f a
 | .get k g,f=>.get k fun e=>(g e).bind f
 | .oz h nat g,f=>.oz h nat fun b=>(g b).bind f
 | .no,_=>.no
instance:Monad Q where
 pure:=Q.ret
 bind:=Q.bind
def at_ (k:Key):Q mV:=.get k .ret
def run {α:Type} (S:St):Q α→Option α
 | .ret a=>some a
 | .get k f=>(f (S.get k)).run S
 | .oz h _ f=>h α fun b=>(f b).run S
 | .no=>none
def reads {α:Type} (S:St):Q α→List Key
 | .ret _=>[]
 | .get k f=>k::(f (S.get k)).reads S
 | .oz h _ f=>(h (List Key) fun b=>some ((f b).reads S)).getD []
 | .no=>[]
def guard (b:Bool):Q Unit:=.oz (fun _ k=>aoU b fun _=>k ()) (by intro R k;cases b<;>rfl) .ret
def dr {α:Type} (o:Option α):Q α:=.oz (fun _ k=>aH o k) (by intro R k;cases o<;>rfl) .ret
def ask (b:Bool):Q Bool:=.oz (fun _ k=>G0 b k) (by intro R k;cases b<;>rfl) .ret
def NP (d:D):Q D:=.oz (fun _ k=>iY d fun sz rows=>k (.sl .own sz rows)) (by intro R k;unfold iY;split<;>rfl) .ret
end Q
section
variable {α β:Type} (S:St)
@[simp] theorem Q.arH (a:α):(Q.ret a).run S=some a:=rfl
@[simp] theorem Q.run_pure (a:α):(pure a:Q α).run S=some a:=rfl
@[simp] theorem Q.arG:(Q.no:Q α).run S=none:=rfl
@[simp] theorem Q.run_get (k:Key) (f:mV→Q α):(Q.get k f).run S=(f (S.get k)).run S:=rfl
@[simp] theorem Q.uL (k:Key):(Q.at_ k).run S=some (S.get k):=rfl
theorem Q.run_bind' (x:Q α) (f:α→Q β):(x.bind f).run S=(x.run S).bind fun a=>(f a).run S:=by
 induction x with
 | ret a=>rfl
 | get k g ih=>simp only [Q.bind,Q.run];exact ih _
 | oz h nat g ih=>
  simp only [Q.bind,Q.run];rw [nat,nat α];cases hh:h _ some with
  | none=>rfl
  | some b=>simp only [Option.bind];exact ih b
 | no=>rfl
@[simp] theorem Q.run_bind (x:Q α) (f:α→Q β):(x >>= f).run S=(x.run S).bind fun a=>(f a).run S:=Q.run_bind' S x f
@[simp] theorem Q.lH (b:Bool):(Q.guard b).run S=if b then some () else none:=by cases b<;>rfl
@[simp] theorem Q.yA (x:Option α):(Q.dr x).run S=x:=by cases x<;>rfl
@[simp] theorem Q.MC (b:Bool):(Q.ask b).run S=some b:=by cases b<;>rfl
theorem Q.apu {d y:D} (h:(Q.NP d).run S=some y):y=d:=by
 have h':(iY d fun sz rows=>some (D.sl .own sz rows))=some y:=h;unfold iY at h';split at h'
 ·simpa using h'.symm
 ·cases h'
@[simp] theorem Q.run_ite (c:Prop) [Decidable c] (x y:Q α):(if c then x else y).run S=if c then x.run S else y.run S:=by split<;>rfl
theorem Q.TF {S S':St} (x:Q α) (h:∀k∈x.reads S,S'.get k=S.get k):x.run S'=x.run S∧x.reads S'=x.reads S:=by
 induction x with
 | ret a=>exact ⟨rfl,rfl⟩
 | get k f ih=>
  have hk:=h k (by simp [Q.reads]);have:=ih (S.get k) (fun k' gH=>h k' (by simp [Q.reads,gH]));simp only [Q.run,Q.reads,hk];exact ⟨this.1,by rw [this.2]⟩
 | oz c nat f ih=>
  simp only [Q.run,Q.reads] at h ⊢;rw [nat,nat _ (fun b=>(f b).run S),nat (List Key) (fun b=>some ((f b).reads S')),nat (List Key) (fun b=>some ((f b).reads S))];rw [nat (List Key)] at h;cases hc:c _ some with
  | none=>exact ⟨rfl,rfl⟩
  | some b=>
   rw [hc] at h;have:=ih b h;simp only [Option.bind,Option.getD];exact this
 | no=>exact ⟨rfl,rfl⟩
end
theorem St.ai8 (S:St) (k k':Key) (e:mV):(S.put k e).get k'=if k=k' then e else S.get k':=by
 induction S with
 | nil=>simp only [St.put,St.get]
 | cons x t ih=>
  obtain ⟨k0,e0⟩:=x;simp only [St.put];by_cases h0:k0=k
  ·subst h0;simp only [bW,St.get];by_cases h:k0=k'<;>simp [h]
  ·simp only [h0,dF,St.get,ih];by_cases h1:k0=k'
   ·subst h1;simp [Ne.symm h0]
   ·simp [h1]
end Go.ax
end
namespace Go.ax
section
inductive X where | s (i:Nat) | t (i:Nat) | c (v:V) | f (n:Nat)
 deriving Inhabited
inductive Cv where | int (k:IntKind) | Ij | Ub | same
 deriving DecidableEq
inductive Fl where | int | bool | str
 deriving DecidableEq,Inhabited
inductive TC where | other | bool | struct (fs:List Fl) | ptr | slice | func | iface
 deriving Inhabited
inductive pj where
 | Ly (x:X)
 | Sj (x:X)
 | pick (c a b:X)
 | alloc (zero:List C)
 | NI (t:Nat) (zero:List C)
 | box (n:Nat) (x:X)
 | N0 (t n:Nat) (x:X)
 | build (zero:List C) (parts:List (Nat×Nat×X))
 | Pr (parts:List X)
 | N1 (sz:Nat) (rows:List (List D)) (parts:List (Nat×X))
 | load (n:Nat) (agg:Bool) (x:X)
 | store (mv:Bool) (n:Nat) (x v:X)
 | bin (tc:TC) (op:BinOp) (x y:X)
 | un (op:UnOp) (x:X)
 | conv (c:Cv) (x:X)
 | R6 (f:Nat) (first cap:List X)
 | R9 (sz bytes:Nat) (zero:List D) (l c:X)
 | TV (x:X) (lo hi:Option X)
 | slice (sz:Nat) (x:X) (lo hi mx:Option X)
 | Pm (off:Nat) (x:X)
 | field (off n:Nat) (agg:Bool) (x:X)
 | Re (sz:Nat) (x i:X)
 | Rf (n sz:Nat) (x i:X)
 | index (x i:X)
 | extract (j:Nat) (x:X)
 | len (str:Bool) (x:X)
 | app (sz bytes:Nat) (x y:X)
 | Be (sz bytes:Nat) (x y:X)
 | Bb (x y:X)
 | min (x y:X)
 | max (x y:X)
 | call (f:X) (args:List (Bool×X))
 | R7 (x:X)
 | TI (x:X)
 | Um (x n:X)
 | R8
 | R5 (m k:X)
 | Sb (m k v:X)
 | bad
 deriving Inhabited
def BP (tag:Nat):C→Option (List C)
 | .fn t [] l=>match Nat.beq t tag with | true=>some l | false=>none
 | _=>none
theorem Po {tag:Nat} {c:C} {l:List C} (h:BP tag c=some l):c = .fn tag [] l:=by
 unfold BP at h;split at h
 ·split at h
  ·rename_i t l' hb;cases h;rw [mU hb]
  ·cases h
 ·cases h
def C.Z4:C→Bool
 | .fn n _ _=>z8 n
 | _=>false
def C.own:C→Bool
 | .d (.sl .own _ _)=>true
 | .c8 .. => true
 | .bt _=>true
 | .mp _=>true
 | _=>false
def V.cells:V→List C
 | .one c=>[c]
 | .agg cs=>cs
 | .aq _=>[]
def V.own (v:V):Bool:=v.cells.any C.own
mutual
def kX:D→D
 | .int k n=>.int k n
 | .bool b=>.bool b
 | .str s=>.str s
 | .sl .own sz rows=>.sl (.im false) sz (aV rows)
 | .sl (.im b) sz rows=>.sl (.im b) sz rows
 | .dead=>.dead
def Dl:List D→List D
 | []=>[]
 | d::t=>kX d::Dl t
def aV:List (List D)→List (List D)
 | []=>[]
 | r::t=>Dl r::aV t
end
def C.plain:C→C
 | .d x=>.d (kX x)
 | .mp _=>.dead
 | c=>c
def V.plain:V→V
 | .one c=>.one c.plain
 | .agg cs=>.agg (cs.map C.plain)
 | .aq vs=>.aq vs
def C.look (k:Key) (g j:Nat):C→C
 | .d (.sl .own sz rows)=>.view ⟨k,j,[]⟩ g sz 0 rows.length
 | .c8 .. => .dead
 | .bt _=>.dead
 | .mp _=>.dead
 | c=>c
def uA (k:Key) (g:Nat):Nat→List C→List C
 | _,[]=>[]
 | j,c::cs=>c.look k g j::uA k g (j+1) cs
def V.look (k:Key) (g:Nat):V→V
 | .one c=>.one (c.look k g 0)
 | .agg cs=>.agg (uA k g 0 cs)
 | .aq vs=>.aq vs
def ew:D→List (Nat×Nat)→Option D
 | d,[]=>some d
 | .sl .own _ rows,(i,c)::p=>((rows[i]?).bind (·[c]?)).bind (ew · p)
 | _,_::_=>none
def eF (x:D) (p:List (Nat×Nat)) (y:D):D:=
 match p with
 | []=>y
 | (i,c)::p=>
  match x with
  | .sl .own sz rows=>.sl .own sz (rows.set i ((rows.getD i []).set c (eF (((rows.getD i [])).getD c (.bool false)) p y)))
  | x=>x
def V.setCell (v:V) (j:Nat) (c:C):V:=
 match v with
 | .one c0=>if j=0 then .one c else .one c0
 | .agg cs=>.agg (cs.set j c)
 | .aq vs=>.aq vs
def D.flat:D→Bool
 | .sl .. => false
 | .dead=>false
 | _=>true
def C.flat:C→Bool
 | .d x=>x.flat
 | _=>false
def V.flat:V→Bool
 | .one c=>c.flat
 | .agg cs=>cs.all C.flat
 | .aq vs=>go vs
where go:List V→Bool
 | []=>true
 | v::t=>v.flat&&go t
def rd:X→Q V
 | .s i=>do let e ←Q.at_ (.s i);pure (e.v.look (.s i) e.g)
 | .t i=>do let e ←Q.at_ (.s i);pure (e.v.look (.s i) e.g)
 | .c v=>pure v
 | .f n=>pure (.one (.fn n [] []))
def nA (ws:List Wr) (k:Key) (v:V):List Wr:={ k,v } :: ws
def qb:List Wr→Key→Option V
 | [],_=>none
 | x::t,k=>if x.k=k then some x.v else qb t k
def sh (ws:List Wr) (k:Key):Q mV:=do
 let e ←Q.at_ k
 match qb ws k with
 | some v=>pure ⟨v,e.g⟩
 | none=>pure e
def fresh (ws:List Wr) (k:Key):Bool:=(qb ws k).isNone&&(qb ws (.a k)).isNone
def tk (ws:List Wr):X→Q (V×List Wr)
 | .t i=>do
  let e ←Q.at_ (.s i)
  Q.guard (qb ws (.s i)).isNone
  if e.v.own then pure (e.v,nA ws (.s i) V.dead) else pure (e.v,ws)
 | x=>do let v ←rd x;pure (v,ws)
def xZ:D→List (Nat×Nat)→Q D
 | d,[]=>pure d
 | .sl .own _ rows,(i,c)::p=>do
  let row ←Q.dr rows[i]?
  let y ←Q.dr row[c]?
  let y ←Q.NP y
  xZ y p
 | _,_::_=>Q.no
def jw (ws:List Wr) (pl:Place) (g sz:Nat):Q (mV×D×List (List D)):=do
 let e ←sh ws pl.k
 Q.guard (e.g==g)
 match e.v.cells[pl.j]? with
 | some (.d x)=>do
  let y ←xZ x pl.p
  match y with
  | .sl .own cu rows=>do Q.guard (cu==sz);pure (e,x,rows)
  | _=>Q.no
 | _=>Q.no
def st (ws:List Wr):C→Q (C×List Wr)
 | .view pl g sz off len=>do
  let (e,x,rows) ←jw ws pl g sz
  Q.guard (decide (off+len≤rows.length))
  pure (.d (.sl (.im false) sz (aV ((rows.drop off).take len))),nA ws pl.k (e.v.setCell pl.j (.d (eF x pl.p (.sl (.im false) sz (aV rows))))))
 | .c8 pl g a sz rows=>do
  let (e,x,dJ) ←jw ws pl g sz
  let ea ←Q.at_ (.a pl.k)
  Q.guard (ea.g==a&&fresh ws pl.k)
  pure (.d (.sl (.im false) sz (aV rows)),nA ws pl.k (e.v.setCell pl.j (.d (eF x pl.p (.sl (.im false) sz (aV dJ))))))
 | .eD .. => Q.no
 | .bt _=>Q.no
 | .mp _=>Q.no
 | .gj .. => Q.no
 | .dead=>Q.no
 | c=>pure (c,ws)
def lI (ws:List Wr):List C→Q (List C×List Wr)
 | []=>pure ([],ws)
 | c::cs=>do
  let (c',ws) ←st ws c
  let (ez,ws) ←lI ws cs
  pure (c'::ez,ws)
def sR (v:V) (pl:Place) (x:D):V:=v.setCell pl.j (.d (eF x pl.p .dead))
def settle (ws:List Wr) (pl:Place) (g a sz:Nat) (rows:List (List D)):Q (C×List Wr):=do
 let (e,x,_) ←jw ws pl g sz
 let ea ←Q.at_ (.a pl.k)
 Q.guard (ea.g==a&&fresh ws pl.k)
 pure (.d (.sl .own sz rows),nA ws pl.k (sR e.v pl x))
def pa (ws:List Wr) (P:Place):C→Q (C×List Wr)
 | .c8 pl g a sz rows=>if pl=P then settle ws pl g a sz rows else st ws (.c8 pl g a sz rows)
 | c=>st ws c
def Key.GC:Key→Bool
 | .b (.e _) _=>false
 | _=>true
def tp (ws:List Wr) (P:Place):C→Q (C×List Wr)
 | .view pl g sz off len=>do
  let (e,x,rows) ←jw ws pl g sz
  let t ←Q.ask (!(pl.k==P.k)&&pl.k.GC&&(off==0&&len==rows.length && !rows.isEmpty))
  if t then
   pure (.d (.sl .own sz rows),nA ws pl.k (sR e.v pl x))
  else st ws (.view pl g sz off len)
 | .c8 pl g a sz rows=>
  if !(pl.k==P.k)&&pl.k.GC then settle ws pl g a sz rows
  else pa ws P (.c8 pl g a sz rows)
 | c=>st ws c
def lY (agg:Bool) (cs:List C):Q V:=
 if agg then pure (.agg cs) else match cs with
  | [c]=>pure (.one c)
  | _=>Q.no
def wv (r:aI):Nat→Nat→Q (List C)
 | _,0=>pure []
 | c,n+1=>do
  let e ←Q.at_ (.b r c)
  match e.v with
  | .one x=>do let t ←wv r (c+1) n;pure (x.look (.b r c) e.g 0::t)
  | _=>Q.no
def RT (pl:Place) (g:Nat):D→C
 | .sl .own sz rows=>.view pl g sz 0 rows.length
 | y=>.d y
def rB (pl:Place) (g i:Nat):Nat→List D→List C
 | _,[]=>[]
 | c,x::t=>RT (pl.sub i c) g x::rB pl g i (c+1) t
def gf (r:aI):Nat→List C→List Wr→List Wr
 | _,[],ws=>ws
 | c,x::t,ws=>gf r (c+1) t ({ k:=.b r c,v:=.one x } :: ws)
def boxed (dst:Nat) (cs:List C) (ws:List Wr):Q (V×List Wr):=do
 let e ←sh ws (.r (.l dst))
 Q.guard (cp e.v==0||cp e.v==cs.length)
 pure (.one (.ptr (.l dst) (e.g+1) 0),gf (.l dst) 0 cs ({ k:=.r (.l dst),v:=fy cs.length } :: ws))
def DI {α:Type} (l:List α) (off:Nat) (cs:List α):List α:=l.take off++cs++l.drop (off+cs.length)
def EI (ws:List Wr):List C→List (Nat×Nat×X)→Q (List C×List Wr)
 | cells,[]=>pure (cells,ws)
 | cells,(off,n,x)::rest=>do
  let (v,ws) ←tk ws x
  let (cs,ws) ←lI ws v.cells
  Q.guard (cs.length==n&&decide (off+n≤cells.length))
  EI ws (DI cells off cs) rest
def na:List C→Option (List D)
 | []=>some []
 | .d x::t=>(na t).map (x :: ·)
 | _::_=>none
def EJ (sz:Nat) (ws:List Wr):List (List D)→List (Nat×X)→Q (List (List D)×List Wr)
 | rows,[]=>pure (rows,ws)
 | rows,(i,x)::rest=>do
  let (v,ws) ←tk ws x
  let (cs,ws) ←lI ws v.cells
  let row ←Q.dr (na cs)
  Q.guard (row.length==sz&&decide (i < rows.length))
  EJ sz ws (rows.set i row) rest
def D.dc:List UInt8→List (List D):=fun s=>s.map fun b=>[.int .u8 b.toNat]
def kC:List (List D)→Option (List UInt8)
 | []=>some []
 | [.int .u8 n]::t=>(kC t).map (UInt8.ofNat n.toNat :: ·)
 | _::_=>none
def qC:List (List D)→List UInt8→Bool
 | [.str k,.bool b]::t,s=>bif s==k then b else qC t s
 | _,_=>false
def qD:List (List D)→List UInt8→Bool→List (List D)
 | [.str k,.bool b]::t,s,v=>bif s==k then [.str s,.bool v]::t else [.str k,.bool b]::qD t s v
 | _,s,v=>[[.str s,.bool v]]
def bytesLess:List UInt8→List UInt8→Bool
 | _,[]=>false
 | [],_::_=>true
 | a::x,b::y=>a < b||(a==b&&bytesLess x y)
def Hl (op:BinOp) (x y:List UInt8):Option D:=
 match op with
 | .add=>if x.length+y.length≤9223372036854775807 then some (.str (x++y)) else none
 | .eql=>some (.bool (x==y))
 | .neq=>some (.bool (!(x==y)))
 | .lss=>some (.bool (bytesLess x y))
 | .leq=>some (.bool (bytesLess x y||x==y))
 | .gtr=>some (.bool (!(bytesLess x y||x==y)))
 | .geq=>some (.bool (!bytesLess x y))
 | _=>none
def Cz (op:BinOp) (k:IntKind) (x y:Int):Option D:=
 match op with
 | .add=>some (.int k (k.wrap (x+y)))
 | .sub=>some (.int k (k.wrap (x - y)))
 | .mul=>some (.int k (k.wrap (x * y)))
 | .quo=>if y=0 then none else some (.int k (k.wrap (x.tdiv y)))
 | .rem=>if y=0 then none else some (.int k (x.tmod y))
 | .and=>some (.int k (k.wrap (BitVec.ofInt k.bits x &&& BitVec.ofInt k.bits y).toNat))
 | .or=>some (.int k (k.wrap (BitVec.ofInt k.bits x ||| BitVec.ofInt k.bits y).toNat))
 | .xor=>some (.int k (k.wrap (BitVec.ofInt k.bits x ^^^ BitVec.ofInt k.bits y).toNat))
 | .andNot=>some (.int k (k.wrap (BitVec.ofInt k.bits x &&& ~~~(BitVec.ofInt k.bits y)).toNat))
 | .eql=>some (.bool (x==y))
 | .neq=>some (.bool (x != y))
 | .lss=>some (.bool (decide (x < y)))
 | .leq=>some (.bool (decide (x≤y)))
 | .gtr=>some (.bool (decide (x > y)))
 | .geq=>some (.bool (decide (x≥y)))
 | _=>none
def DH (op:BinOp) (k:IntKind) (x y:Int):Option D:=
 if y < 0 then none else
 match op with
 | .shl=>some (.int k (k.wrap (x * 2 ^ (Min.min y.toNat k.bits))))
 | .shr=>some (.int k (x.fdiv (2 ^ (Min.min y.toNat k.bits))))
 | _=>none
def dB:List Fl→List C→List C→Option Bool
 | [],[],[]=>some true
 | .int::r,.d (.int k x)::s,.d (.int k' y)::t=>if k=k' then (dB r s t).map (x==y && ·) else none
 | .bool::r,.d (.bool x)::s,.d (.bool y)::t=>(dB r s t).map (x==y && ·)
 | .str::r,.d (.str x)::s,.d (.str y)::t=>(dB r s t).map (x==y && ·)
 | _,_,_=>none
def jK:TC→C→Option Bool
 | .ptr,.cE=>some true
 | .ptr,.ptr .. => some false
 | .func,.eX=>some true
 | .func,.fn n _ _=>match z8 n with | true=>some false | false=>none
 | .iface,.fR=>some true
 | .iface,.fj=>some false
 | .slice,.d (.sl (.im b) _ _)=>some b
 | .slice,.view .. => some false
 | _,_=>none
def si (tc:TC) (op:BinOp) (x y:V):Option D:=
 match x,y with
 | .one (.d (.int k a)),.one (.d (.int k' b))=>
  match op with
  | .shl=>DH .shl k a b
  | .shr=>DH .shr k a b
  | _=>if k=k' then Cz op k a b else none
 | .one (.d (.str a)),.one (.d (.str b))=>Hl op a b
 | .one (.d (.bool a)),.one (.d (.bool b))=>
  match tc,op with
  | .bool,.eql=>some (.bool (a==b))
  | .bool,.neq=>some (.bool (!(a==b)))
  | _,_=>none
 | .agg a,.agg b=>
  match tc,op with
  | .struct fs,.eql=>(dB fs a b).map .bool
  | .struct fs,.neq=>(dB fs a b).map fun r=>.bool (!r)
  | _,_=>none
 | .one a,.one b=>
  if jK tc b=some true then
   match op with
   | .eql=>(jK tc a).map .bool
   | .neq=>(jK tc a).map fun r=>.bool (!r)
   | _=>none
  else none
 | _,_=>none
def unV (op:UnOp) (x:V):Option D:=
 match op,x with
 | .not,.one (.d (.bool b))=>some (.bool (!b))
 | .neg,.one (.d (.int k n))=>some (.int k (k.wrap (0 - n)))
 | .xor,.one (.d (.int k n))=>some (.int k (k.wrap (BitVec.ofInt k.bits (if k.signed then -1 else k.max) ^^^ BitVec.ofInt k.bits n).toNat))
 | _,_=>none
def asNat:V→Option Nat
 | .one (.d (.int _ n))=>if 0≤n then some n.toNat else none
 | _=>none
def qF (x:Option X) (d:Nat):Q Nat:=
 match x with
 | none=>pure d
 | some x=>do let v ←rd x;Q.dr (asNat v)
def shown:V→Q (List (List D))
 | .one (.d (.sl .own _ _))=>Q.no
 | .one (.d (.sl _ _ rows))=>pure rows
 | .one (.view pl g sz off len)=>do
  let (_,_,rows) ←jw [] pl g sz
  Q.guard (decide (off+len≤rows.length))
  pure (aV ((rows.drop off).take len))
 | _=>Q.no
def TU:X→Q (List (List D))
 | .s i=>do
  let e ←Q.at_ (.s i)
  match e.v with
  | .one (.c8 pl g a _ rows)=>do
   let ep ←Q.at_ pl.k
   let ea ←Q.at_ (.a pl.k)
   Q.guard (ep.g==g&&ea.g==a)
   pure rows
  | _=>Q.no
 | _=>Q.no
def rowsOf (sz:Nat) (ws:List Wr) (v:V):Q (List (List D)×List Wr):=
 match v with
 | .one c=>do
  let (c',ws) ←st ws c
  match c' with
  | .d (.sl _ cu rows)=>do Q.guard (cu==sz||rows.isEmpty);pure (rows,ws)
  | _=>Q.no
 | _=>Q.no
def wX (sz bytes:Nat) (v:V) (ws:List Wr) (src:List (List D)):Q (V×List Wr):=
 match v with
 | .one (.d (.sl .own cu rows))=>do
  Q.guard (fS bytes src rows.isEmpty&&(cu==sz&&decide ((rows.length+src.length) * bytes≤140737488355328)))
  pure (.one (.d (.sl .own sz (rows++src))),ws)
 | .one (.d (.sl (.im b) cu _))=>do
  Q.guard (fS bytes src false&&(b&&cu==sz&&decide (src.length * bytes≤140737488355328)))
  pure (.one (.d (.sl (if src.isEmpty then .im true else .own) sz src)),ws)
 | .one (.view pl g cu off len)=>do
  let (_,_,rows) ←jw ws pl g sz
  Q.guard (fS bytes src rows.isEmpty&&cu==sz&&off==0&&len==rows.length&&fresh ws pl.k&&decide ((rows.length+src.length) * bytes≤140737488355328))
  let ea ←Q.at_ (.a pl.k)
  pure (.one (.c8 pl g (ea.g+1) sz (rows++src)),{ k:=.a pl.k,v:=V.dead } :: ws)
 | .one (.c8 pl g a cu rows)=>do
  let (_,_,dJ) ←jw ws pl g sz
  let ea ←Q.at_ (.a pl.k)
  Q.guard (fS bytes src rows.isEmpty&&cu==sz&&decide (dJ.length≤rows.length)&&ea.g==a&&fresh ws pl.k&&decide ((rows.length+src.length) * bytes≤140737488355328))
  pure (.one (.c8 pl g (ea.g+1) sz (rows++src)),{ k:=.a pl.k,v:=V.dead } :: ws)
 | _=>Q.no
def abo (dst:Nat) (v:V) (ws:List Wr):Q (V×List Wr):=
 match v with
 | .one (.c8 pl g a sz rows)=>do
  let (c,ws) ←settle ws pl g a sz rows
  pure (.one c,ws)
 | .one (.view pl g sz off len)=>
  if pl.k = .s dst then do
   let (c,ws) ←st ws (.view pl g sz off len)
   pure (.one c,ws)
  else pure (v,ws)
 | _=>pure (v,ws)
def sw (rows:List (List D)):Bool:=rows.all fun r=>r.all D.flat
def X2 (sz bytes:Nat) (x y:X):Q (V×List Wr):=do
 let (a,ws) ←tk [] y
 let (src,ws) ←rowsOf sz ws a
 let (v,ws) ←tk ws x
 wX sz bytes v ws src
def vo (P:Place) (i:Nat) (ws:List Wr):Nat→List C→Q (List D×List Wr)
 | _,[]=>pure ([],ws)
 | c,y::t=>do
  let (y',ws) ←pa ws (P.sub i c) y
  match y' with
  | .d z=>do
   let (zs,ws) ←vo P i ws (c+1) t
   pure (z::zs,ws)
  | _=>Q.no
def xe (v:V) (pl:Place) (i:Nat):Nat→List D→D→List Wr→Option (List Wr)
 | _,[],_,ws=>some ws
 | c,z::t,x,ws=>
  match ew x (pl.p++[(i,c)]) with
  | none=>none
  | some dJ=>
   if AQ z dJ=true then
   xe (v.setCell pl.j (.d (eF x (pl.p++[(i,c)]) z))) pl i (c+1) t (eF x (pl.p++[(i,c)]) z)
    ({ k:=pl.k,v:=v.setCell pl.j (.d (eF x (pl.p++[(i,c)]) z)),keep:=dJ.flat&&z.flat } :: { k:=.a pl.k,v:=V.dead } :: ws)
   else none
def Mc (mv:Bool) (ws:List Wr) (P:Place) (y:C):Q (C×List Wr):=if mv then tp ws P y else pa ws P y
def putCells (mv:Bool) (r:aI) (ws:List Wr):Nat→List C→Q (List C×List Wr)
 | _,[]=>pure ([],ws)
 | c,y::t=>do
  let (y',ws) ←Mc mv ws ⟨.b r c,0,[]⟩ y
  let (ys,ws) ←putCells mv r ws (c+1) t
  pure (y'::ys,ws)
end
section
abbrev bX:=Nat→List V→List (List C)→Option (V×List (List C))
mutual
def C.wo:C→List (aI×Nat)
 | .ptr r g _=>[(r,g)]
 | .fn _ a b=>kY a++kY b
 | _=>[]
def kY:List C→List (aI×Nat)
 | []=>[]
 | c::t=>c.wo++kY t
end
def sd:List aI→List (aI×Nat)→List aI
 | rs,[]=>rs
 | rs,(r,_)::t=>if rs.contains r then sd rs t else sd (rs++[r]) t
def xV (ws:List Wr):List (aI×Nat)→Q Unit
 | []=>pure ()
 | (r,g)::t=>do
  let e ←Q.at_ (.r r)
  Q.guard (e.g==g&&(qb ws (.r r)).isNone && !r.iW)
  xV ws t
def Az (ws:List Wr) (r:aI):Nat→Nat→Q (List C)
 | _,0=>pure []
 | c,n+1=>do
  let e ←sh ws (.b r c)
  match e.v with
  | .one x=>do
   let t ←Az ws r (c+1) n
   pure (x::t)
  | _=>Q.no
def zr (ws:List Wr):Nat→List aI→Nat→Q (List aI×List (List C))
 | 0,rs,i=>if rs.length≤i then pure (rs,[]) else Q.no
 | f+1,rs,i=>
  match rs[i]? with
  | none=>pure (rs,[])
  | some r=>do
   let er ←Q.at_ (.r r)
   let cs ←Az ws r 0 (cp er.v)
   xV ws (kY cs)
   let (Tx,bs) ←zr ws f (sd rs (kY cs)) (i+1)
   pure (Tx,cs::bs)
def jm (rs:List aI) (r:aI) (i:Nat):Option Nat:=
 match rs with
 | []=>none
 | x::t=>if x=r then some i else jm t r (i+1)
mutual
def C.ef (rs:List aI):C→Option C
 | .d x=>some (.d x)
 | .ptr r _ c=>(jm rs r 0).map fun i=>.ptr (.e i) 0 c
 | .pp cells=>some (.pp cells)
 | .fn f a b=>(lV rs a).bind fun a'=>(lV rs b).map fun b'=>.fn f a' b'
 | .cE=>some .cE
 | .eX=>some .eX
 | .fR=>some .fR
 | .fj=>some .fj
 | .bt t=>some (.bt t)
 | .dead=>some .dead
 | _=>none
def lV (rs:List aI):List C→Option (List C)
 | []=>some []
 | c::t=>(c.ef rs).bind fun c'=>(lV rs t).map (c' :: ·)
end
def V.Cy (rs:List aI):V→Option V
 | .one c=>(c.ef rs).map .one
 | .agg cs=>(lV rs cs).map .agg
 | .aq _=>none
def uu (rs:List aI):List V→Option (List V)
 | []=>some []
 | v::t=>(v.Cy rs).bind fun v'=>(uu rs t).map (v' :: ·)
def pI (rs:List aI):List (List C)→Option (List (List C))
 | []=>some []
 | v::t=>(lV rs v).bind fun v'=>(pI rs t).map (v' :: ·)
mutual
def C.dV (rs:List (aI×Nat)):C→Option C
 | .d x=>some (.d x)
 | .ptr (.e i) _ c=>(rs[i]?).map fun x=>.ptr x.1 x.2 c
 | .ptr _ _ _=>none
 | .pp cells=>some (.pp cells)
 | .fn f a b=>(nu rs a).bind fun a'=>(nu rs b).map fun b'=>.fn f a' b'
 | .cE=>some .cE
 | .eX=>some .eX
 | .fR=>some .fR
 | .fj=>some .fj
 | .bt t=>some (.bt t)
 | .dead=>some .dead
 | _=>none
def nu (rs:List (aI×Nat)):List C→Option (List C)
 | []=>some []
 | c::t=>(c.dV rs).bind fun c'=>(nu rs t).map (c' :: ·)
end
mutual
def V.pN (rs:List (aI×Nat)):V→Option V
 | .one c=>(c.dV rs).map .one
 | .agg cs=>(nu rs cs).map .agg
 | .aq vs=>(s8 rs vs).map .aq
def s8 (rs:List (aI×Nat)):List V→Option (List V)
 | []=>some []
 | v::t=>(v.pN rs).bind fun v'=>(s8 rs t).map (v' :: ·)
end
def rE (rs:List (aI×Nat)):List (List C)→Option (List (List C))
 | []=>some []
 | v::t=>(nu rs v).bind fun v'=>(rE rs t).map (v' :: ·)
def BS:List aI→Q (List (aI×Nat))
 | []=>pure []
 | x::t=>do
  let e ←Q.at_ (.r x)
  let l ←BS t
  pure ((x,e.g)::l)
def C.same:C→C→Bool
 | .ptr r g c,.ptr r' g' c'=>decide (r=r')&&g==g'&&c==c'
 | _,_=>false
def mH (r:aI):Nat→List C→List C→List Wr→List Wr
 | c,x::t,y::u,ws=>mH r (c+1) t u (if y.same x then ws else { k:=.b r c,v:=.one x } :: ws)
 | _,_,_,ws=>ws
def jH:List aI→List (List C)→List (List C)→List Wr→List Wr
 | x::rs,cs::bs,ol::os,ws=>jH rs bs os (mH x 0 cs ol ws)
 | _,_,_,ws=>ws
def sV:List (List C)→List (List C)→Bool
 | [],[]=>true
 | x::t,y::u=>x.length==y.length&&sV t u
 | _,_=>false
def yp (ws:List Wr):List (Bool×X)→Q (List V×List Wr)
 | []=>pure ([],ws)
 | (_,x)::t=>do
  let (v,ws) ←tk ws x
  match v with
  | .one c=>do
   let (c',ws) ←st ws c
   let (vs,ws) ←yp ws t
   pure (.one c'.plain::vs,ws)
  | .agg cs=>do
   let (ez,ws) ←lI ws cs
   let (vs,ws) ←yp ws t
   pure (.agg (ez.map C.plain)::vs,ws)
  | .aq _=>Q.no
def tD:List V→List (aI×Nat)
 | []=>[]
 | v::t=>kY v.cells++tD t
def zd (Cl:bX) (dst:Nat) (f:Nat) (vs:List V) (ws:List Wr):Q (V×List Wr):=do
 xV ws (tD vs)
 let (rs,bs) ←zr ws 40 (sd [] (tD vs)) 0
 let eR ←Q.dr (uu rs vs)
 let dM ←Q.dr (pI rs bs)
 let (r,out) ←Q.dr (Cl f eR dM)
 if rs.isEmpty&&r.flat&&out.isEmpty then pure (r,[])
 else do
  let gs ←BS rs
  if out.length=rs.length then do
   let r' ←Q.dr (r.pN gs)
   let cK ←Q.dr (rE gs out)
   Q.guard (sV cK bs)
   pure (r',jH rs cK bs ws)
  else do
   let e ←sh ws (.r (.l dst))
   let ES:=gs++[(.l dst,e.g+1)]
   let r' ←Q.dr (r.pN ES)
   let cK ←Q.dr (rE ES out)
   let nb:=cK.getD rs.length []
   Q.guard (out.length==rs.length+1&&sV (cK.take rs.length) bs&&(cp e.v==0||cp e.v==nb.length) && !rs.contains (.l dst))
   pure (r',gf (.l dst) 0 nb ({ k:=.r (.l dst),v:=fy nb.length } :: jH rs cK bs ws))
def zq (ws:List Wr):List X→Q (List C×List Wr)
 | []=>pure ([],ws)
 | x::t=>do
  let v ←rd x
  match v with
  | .one c=>do
   let (c',ws) ←st ws c
   let (r,ws) ←zq ws t
   pure (c'::r,ws)
  | _=>Q.no
def Tag.XT:Tag→Tag
 | .im b=>bif b then .im true else .own
 | .own=>.own
def bp (Cl:bX) (dst:Nat):pj→Q (V×List Wr)
 | .Ly x=>do let (v,ws) ←tk [] x;abo dst v ws
 | .Sj x=>do
  let v ←rd x
  match v with
  | .one (.ptr ..)=>pure (v,[])
  | .one (.eD ..)=>pure (v,[])
  | .one (.pp _)=>pure (v,[])
  | .one (.fn n _ _)=>do
   Q.guard (z8 n)
   pure (v,[])
  | _=>Q.no
 | .pick c a b=>do
  let v ←rd c
  match v with
  | .one (.d (.bool true))=>do let r ←rd a;pure (r,[])
  | .one (.d (.bool false))=>do let r ←rd b;pure (r,[])
  | _=>Q.no
 | .alloc zero=>boxed dst zero []
 | .NI t zero=>do
  let (v,ws) ←boxed dst zero []
  pure (v,{ k:=.b (.l dst) 0,v:=.one (.bt t) } :: ws)
 | .box n x=>do
  let (v,ws) ←tk [] x
  let (cs,ws) ←lI ws v.cells
  Q.guard (cs.length==n)
  boxed dst cs ws
 | .N0 t n x=>do
  let (v,ws) ←tk [] x
  let (cs,ws) ←lI ws v.cells
  Q.guard (cs.length==n)
  match cs with
  | [.cE,z]=>do
   let (r,ws) ←boxed dst [.cE,z] ws
   pure (r,{ k:=.b (.l dst) 0,v:=.one (.bt t) } :: ws)
  | _=>Q.no
 | .build zero parts=>do let (cs,ws) ←EI [] zero parts;pure (.agg cs,ws)
 | .Pr parts=>do
  let (cs,ws) ←zq [] parts
  Q.guard (cs.all C.Z4)
  pure (.one (.fn kM [] cs),ws)
 | .N1 sz rows parts=>do
  let (rs,ws) ←EJ sz [] rows parts
  Q.guard ((lZ rs || !(lZ rows))&&(!rs.isEmpty||parts.isEmpty))
  pure (.one (.d (.sl .own sz rs)),ws)
 | .load n agg x=>do
  let v ←rd x
  match v with
  | .one (.ptr r g c)=>do
   let e ←Q.at_ (.r r)
   Q.guard (!r.iW&&e.g==g&&decide (c+n≤cp e.v))
   let cs ←wv r c n
   let r' ←lY agg cs
   pure (r',[])
  | .one (.pp cells)=>do
   Q.guard (decide (n≤cells.length))
   let r' ←lY agg ((cells.take n).map .d)
   pure (r',[])
  | .one (.eD pl g sz i c)=>do
   let (_,_,rows) ←jw [] pl g sz
   let row ←Q.dr rows[i]?
   Q.guard (decide (c+n≤row.length))
   let r' ←lY agg (rB pl g i c ((row.drop c).take n))
   pure (r',[])
  | .one (.fn t f l)=>do
   let l ←Q.dr (BP (kM+1) (.fn t f l))
   Q.guard (l.length==n)
   let r' ←lY agg l
   pure (r',[])
  | _=>Q.no
 | .store mv n x v=>do
  let p ←rd x
  let (vv,ws) ←tk [] v
  Q.guard (vv.cells.length==n)
  match p with
  | .one (.ptr r g c)=>do
   let (cs,ws) ←putCells mv r ws c vv.cells
   let e ←sh ws (.r r)
   Q.guard (!r.iW&&e.g==g&&decide (c+n≤cp e.v))
   pure (.aq [],gf r c cs ws)
  | .one (.eD pl g sz i c)=>do
   let (zs,ws) ←vo pl i ws c vv.cells
   let (e,x0,rows) ←jw ws pl g sz
   let row ←Q.dr rows[i]?
   Q.guard (decide (c+n≤row.length))
   let ws ←Q.dr (xe e.v pl i c zs x0 ws)
   pure (.aq [],ws)
  | _=>Q.no
 | .bin tc op x y=>do
  let a ←rd x
  let b ←rd y
  let r ←Q.dr (si tc op a b)
  pure (.one (.d r),[])
 | .un op x=>do
  let a ←rd x
  let r ←Q.dr (unV op a)
  pure (.one (.d r),[])
 | .conv c x=>do
  let a ←rd x
  match c,a with
  | .int k,.one (.d (.int _ n))=>pure (.one (.d (.int k (k.wrap n))),[])
  | .same,.one (.d (.str s))=>pure (.one (.d (.str s)),[])
  | .Ub,.one (.d (.str s))=>do
   Q.guard (decide (s.length≤140737488355328))
   pure (.one (.d (.sl .own 1 (D.dc s))),[])
  | .Ij,.one .dead=>do
   let rows ←TU x
   let s ←Q.dr (kC rows)
   pure (.one (.d (.str s)),[])
  | .Ij,a=>do
   let rows ←shown a
   let s ←Q.dr (kC rows)
   pure (.one (.d (.str s)),[])
  | _,_=>Q.no
 | .R6 f first cap=>do
  let (a,ws) ←zq [] first
  let (b,ws) ←zq ws cap
  pure (.one (.fn f a b),ws)
 | .R9 sz bytes zero l c=>do
  let n ←rd l
  let m ←rd c
  let n ←Q.dr (asNat n)
  let m ←Q.dr (asNat m)
  Q.guard (decide (n≤m)&&decide (m * bytes≤140737488355328)&&decide (m≤9223372036854775807)&&zero.length==sz&&(bytes==1||(!(tw zero)&&(!(n==0)||m==0))))
  pure (.one (.d (.sl .own sz (List.replicate n zero))),[])
 | .TV x lo hi=>do
  let v ←rd x
  match v with
  | .one (.d (.str s))=>do
   let l ←qF lo 0
   let h ←qF hi s.length
   Q.guard (decide (l≤h)&&decide (h≤s.length))
   pure (.one (.d (.str ((s.drop l).take (h - l)))),[])
  | _=>Q.no
 | .slice pS x lo hi mx=>do
  let v ←rd x
  match v with
  | .one (.d (.sl .own _ _))=>Q.no
  | .one (.d (.sl t sz rows))=>do
   let l ←qF lo 0
   let h ←qF hi rows.length
   Q.guard ((sz==pS||rows.isEmpty)&&decide (l≤h)&&decide (h≤rows.length))
   match mx with
   | none=>pure (.one (.d (.sl t sz ((rows.drop l).take (h - l)))),[])
   | some x=>do
    let vm ←rd x
    let m ←Q.dr (asNat vm)
    Q.guard (m==0&&l==0&&h==0)
    pure (.one (.d (.sl t.XT sz [])),[])
  | .one (.view pl g sz off len)=>do
   let l ←qF lo 0
   let h ←qF hi len
   Q.guard (sz==pS&&decide (l≤h)&&decide (h≤len)&&mx.isNone&&(decide (0 < h)||len==0))
   pure (.one (.view pl g sz (off+l) (h - l)),[])
  | _=>Q.no
 | .Pm off x=>do
  let v ←rd x
  match v with
  | .one (.ptr r g c)=>pure (.one (.ptr r g (c+off)),[])
  | .one (.pp cells)=>pure (.one (.pp (cells.drop off)),[])
  | .one (.eD pl g sz i c)=>pure (.one (.eD pl g sz i (c+off)),[])
  | _=>Q.no
 | .field off n agg x=>do
  let v ←rd x
  match v with
  | .agg cs=>do
   Q.guard (decide (off+n≤cs.length))
   let r ←lY agg ((cs.drop off).take n)
   pure (r,[])
  | _=>Q.no
 | .Re sz x i=>do
  let v ←rd x
  let vi ←rd i
  let i ←Q.dr (asNat vi)
  match v with
  | .one (.d (.sl .own _ _))=>Q.no
  | .one (.d (.sl _ cu rows))=>do
   Q.guard (cu==sz)
   let row ←Q.dr rows[i]?
   pure (.one (.pp row),[])
  | .one (.view pl g cu off len)=>do
   Q.guard (cu==sz&&decide (i < len))
   pure (.one (.eD pl g sz (off+i) 0),[])
  | .one (.fn t f l)=>do
   let l ←Q.dr (BP kM (.fn t f l))
   Q.guard (sz==1)
   let c ←Q.dr l[i]?
   pure (.one (.fn (kM+1) [] [c]),[])
  | _=>Q.no
 | .Rf n sz x i=>do
  let v ←rd x
  let vi ←rd i
  let i ←Q.dr (asNat vi)
  Q.guard (decide (i < n))
  match v with
  | .one (.ptr r g c)=>pure (.one (.ptr r g (c+i * sz)),[])
  | _=>Q.no
 | .index x i=>do
  let v ←rd x
  let vi ←rd i
  let i ←Q.dr (asNat vi)
  match v with
  | .one (.d (.str s))=>do
   let b ←Q.dr s[i]?
   pure (.one (.d (.int .u8 b.toNat)),[])
  | _=>Q.no
 | .extract j x=>do
  let v ←rd x
  match v with
  | .aq vs=>do let r ←Q.dr vs[j]?;pure (r,[])
  | _=>Q.no
 | .len true x=>do
  let v ←rd x
  match v with
  | .one (.d (.str s))=>pure (.one (.d (.int .i64 s.length)),[])
  | _=>Q.no
 | .len false x=>do
  let v ←rd x
  match v with
  | .one (.d (.sl _ _ rows))=>pure (.one (.d (.int .i64 rows.length)),[])
  | .one (.view _ _ _ _ len)=>pure (.one (.d (.int .i64 len)),[])
  | .one (.fn t f l)=>do
   let l ←Q.dr (BP kM (.fn t f l))
   pure (.one (.d (.int .i64 l.length)),[])
  | _=>Q.no
 | .app sz bytes x y=>do
  let (a,ws) ←tk [] y
  let (src,ws) ←rowsOf sz ws a
  let (v,ws) ←tk ws x
  wX sz bytes v ws src
 | .Be sz bytes x y=>do
  let a ←rd y
  match a with
  | .one (.view pl g cu off len)=>do
   let (_,_,rows) ←jw [] pl g cu
   Q.guard (cu==sz&&decide (off+len≤rows.length)&&sw ((rows.drop off).take len))
   let (v,ws) ←tk [] x
   wX sz bytes v ws ((rows.drop off).take len)
  | _=>X2 sz bytes x y
 | .Bb x y=>do
  let a ←rd y
  match a with
  | .one (.d (.str s))=>do
   let (v,ws) ←tk [] x
   wX 1 1 v ws (D.dc s)
  | _=>Q.no
 | .min x y=>do
  let a ←rd x
  let b ←rd y
  match a,b with
  | .one (.d (.int k m)),.one (.d (.int _ n))=>pure (.one (.d (.int k (if n < m then n else m))),[])
  | _,_=>Q.no
 | .max x y=>do
  let a ←rd x
  let b ←rd y
  match a,b with
  | .one (.d (.int k m)),.one (.d (.int _ n))=>pure (.one (.d (.int k (if n > m then n else m))),[])
  | _,_=>Q.no
 | .call f args=>do
  let vf ←rd f
  match vf with
  | .one (.fn n first cap)=>do
   Q.guard (z8 n)
   let (vs,ws) ←yp [] args
   zd Cl dst n (first.map .one++vs++cap.map .one) ws
  | _=>Q.no
 | .R7 _=>pure (.one .fj,[])
 | .TI x=>do
  let v ←rd x
  match v with
  | .one (.view pl g sz off len)=>do
   Q.guard (!(len==0)&&off==0)
   pure (.one (.eD pl g sz 0 0),[])
  | _=>Q.no
 | .Um x n=>do
  let v ←rd x
  let vn ←rd n
  let n ←Q.dr (asNat vn)
  match v with
  | .one (.eD pl g sz i c)=>do
   let (e,x0,rows) ←jw [] pl g sz
   Q.guard (sz==1&&i==0&&c==0&&n==rows.length && !(n==0)&&decide (n≤140737488355328))
   let s ←Q.dr (kC rows)
   pure (.one (.d (.str s)),nA [] pl.k (sR e.v pl x0))
  | _=>Q.no
 | .R8=>do
  let e ←Q.at_ (.b (.g dst) 0)
  let n ←Q.at_ (.r (.g dst))
  Q.guard (decide (cp n.v≤1))
  pure (.one (.gj dst (e.g+1)),[{ k:=.b (.g dst) 0,v:=.one (.mp (.sl (.im false) 2 [])) },{ k:=.r (.g dst),v:=fy 1 }])
 | .R5 m k=>do
  let v ←rd m
  let s ←rd k
  match v,s with
  | .one (.gj i g),.one (.d (.str s))=>do
   let e ←Q.at_ (.b (.g i) 0)
   match e.v with
   | .one (.mp (.sl _ _ rows))=>do
    Q.guard (e.g==g)
    pure (.one (.d (.bool (qC rows s))),[])
   | _=>Q.no
  | _,_=>Q.no
 | .Sb m k x=>do
  let v ←rd m
  let s ←rd k
  let b ←rd x
  match v,s,b with
  | .one (.gj i g),.one (.d (.str s)),.one (.d (.bool b))=>do
   let e ←Q.at_ (.b (.g i) 0)
   match e.v with
   | .one (.mp (.sl _ _ rows))=>do
    Q.guard (e.g==g)
    pure (.aq [],[{ k:=.b (.g i) 0,v:=.one (.mp (.sl (.im false) 2 (qD rows s b))),keep:=true },{ k:=.a (.b (.g i) 0),v:=V.dead }])
   | _=>Q.no
  | _,_,_=>Q.no
 | .bad=>Q.no
end
section
structure gy where
 dst:Option Nat
 op:pj
 guard:Option (Nat×Bool)
 deriving Inhabited
inductive mc where
 | skip
 | iZ (keep:Option (List Nat)) (gc:Bool) (ops:List gy) (draw:Option (List (Nat×Nat)))
 | seq (a b:mc)
 | cond (c:X) (a b:mc)
 | block (id:Nat) (body:mc)
 | loop (body:mc)
 | exit (id:Nat)
 | ret
 deriving Inhabited
inductive RV where
 | slot (t:Nat)
 | cell (t n:Nat) (agg:Bool)
 deriving Inhabited
structure lp where
 Db:Nat
 results:List RV
 body:mc
 forget:Bool
 deriving Inhabited
inductive tQ where | norm | exit (id:Nat) | ret
 deriving DecidableEq,Inhabited
def BY:Option (Nat×Bool)→Q Bool
 | none=>pure true
 | some (t,b)=>do
  let e ←Q.at_ (.s t)
  match e.v with
  | .one (.d (.bool x))=>pure (x==b)
  | .aq []=>pure false
  | _=>Q.no
def gq (Cl:bX) (o:gy):Q (List Wr):=do
 let want ←BY o.guard
 if want then do
  let (v,ws) ←bp Cl (o.dst.getD 0) o.op
  match o.dst with
  | some d=>pure ({ k:=.s d,v } :: ws)
  | none=>pure ws
 else
  match o.dst with
  | some d=>pure [{ k:=.s d,v:=.aq [] }]
  | none=>pure []
def mj (Cl:bX):List gy→St→Option St
 | [],S=>some S
 | o::t,S=>((gq Cl o).run S).bind fun ws=>mj Cl t (S.ah ws)
structure lP where
 r:List Key
 w:List Key
def iq (Cl:bX):List gy→St→Option (St×List lP)
 | [],S=>some (S,[])
 | o::t,S=>((gq Cl o).run S).bind fun ws=>
  (iq Cl t (S.ah ws)).map fun x=>(x.1,⟨(gq Cl o).reads S,ws.map (·.k)⟩::x.2)
def lP.apart (x y:lP):Bool:=
 x.w.all (fun k=>!y.r.contains k && !y.w.contains k)&&y.w.all (fun k=>!x.r.contains k)
def SN (fs:List lP) (ps:List (Nat×Nat)):Bool:=
 ps.all fun (i,j)=>match fs[i]?,fs[j]? with
  | some x,some y=>x.apart y
  | _,_=>false
mutual
def C.refs:C→List Key
 | .view pl .. => [pl.k]
 | .eD pl .. => [pl.k]
 | .c8 pl .. => [pl.k,.a pl.k]
 | .gj i _=>[.b (.g i) 0]
 | .fn _ a b=>Dt a++Dt b
 | _=>[]
def Dt:List C→List Key
 | []=>[]
 | c::t=>c.refs++Dt t
end
mutual
def V.refs:V→List Key
 | .one c=>c.refs
 | .agg cs=>Dt cs
 | .aq vs=>Mn vs
def Mn:List V→List Key
 | []=>[]
 | v::t=>v.refs++Mn t
end
def kept (keep:List Nat):Key→Bool
 | .s i=>keep.contains i
 | .h _=>false
 | _=>true
def allRefs:St→List Key
 | []=>[]
 | (_,e)::t=>e.v.refs++allRefs t
def Mr (refs:List Key) (k:Key) (g:Nat):Nat:=if refs.contains k then g else match k with | .r _=>g | _=>0
def reset (refs:List Key):St→St
 | []=>[]
 | (k,e)::t=>(k,{ e with g:=Mr refs k e.g })::reset refs t
def Z3:mV→Bool
 | ⟨.one .dead,g⟩=>Nat.beq g 0
 | _=>false
def OO (S:St):Key→Bool
 | .a k=>Z3 (S.get (.a k))
 | _=>false
def EC (S:St):St:=S.filter fun x=>!OO S x.1
def St.Sk (keep:List Nat) (S:St):Option St:=
 let S':=S.filter fun x=>kept keep x.1
 if (allRefs S').all (kept keep) then some (EC (reset (allRefs S') S')) else none
def TX:List Key→List Nat
 | []=>[]
 | .s i::t=>i::TX t
 | _::t=>TX t
def St.looked (keep:List Nat) (S:St):List Nat:=keep++TX (allRefs (S.filter fun x=>kept keep x.1))
def St.norm (keep:List Nat) (S:St):Option St:=S.Sk (S.looked (S.looked keep))
def Key.uH : Key→Option aI
 | .b x _=>some x
 | .r x=>some x
 | _=>none
mutual
def C.wC:C→List aI
 | .ptr r .. => [r]
 | .eD pl .. => pl.k.uH.toList
 | .view pl .. => pl.k.uH.toList
 | .c8 pl .. => pl.k.uH.toList
 | .gj i _=>[.g i]
 | .fn _ a b=>Dx a++Dx b
 | _=>[]
def Dx:List C→List aI
 | []=>[]
 | c::t=>c.wC++Dx t
end
mutual
def V.roots:V→List aI
 | .one c=>c.wC
 | .agg cs=>Dx cs
 | .aq vs=>Mu vs
def Mu:List V→List aI
 | []=>[]
 | v::t=>v.roots++Mu t
end
def Key.akl:Key→Bool
 | .s _=>true
 | _=>false
def TW:St→List aI
 | []=>[]
 | (k,e)::t=>(if k.akl then e.v.roots else [])++TW t
def Wj (live:List aI):St→List aI
 | []=>[]
 | (k,e)::t=>(match k with | .b r _=>if live.contains r then e.v.roots else [] | _=>[])++Wj live t
def Px (S:St):Nat→List aI→List aI
 | 0,l=>l
 | n+1,l=>Px S n (l++(Wj l S).filter fun r=>!l.contains r)
def aI.ext:aI→Bool
 | .l _=>false
 | _=>true
def C.oS (c:C):C:=c
def V.oS:V→V
 | .one c=>.one c.oS
 | v=>v
def Al:St→St
 | []=>[]
 | (k,e)::t=>(k,{ e with v:=e.v.oS })::Al t
def qa (live:List aI) (k:Key):Bool:=match k.uH with | some r=>r.ext||live.contains r | none=>true
def St.gc (S:St):Option St:=
 let live:=Px S 3 (TW S)
 let S':=S.filter fun x=>qa live x.1
 if S'.all fun x=>x.2.v.roots.all fun r=>r.ext||live.contains r then some (Al S') else none
def pA (Cl:bX) (keep:Option (List Nat)) (gc:Bool) (ops:List gy) (draw:Option (List (Nat×Nat))) (S:St):Option St:=
 (match keep with | some l=>S.norm l | none=>some S).bind fun S1=>
 (if gc then S1.gc else some S1).bind fun S2=>
 match draw with
 | none=>mj Cl ops S2
 | some []=>mj Cl ops S2
 | some ps=>(iq Cl ops S2).bind fun x=>if SN x.2 ps then some x.1 else none
def iter (f:St→Option (tQ×St)):Nat→St→Option (tQ×St)
 | 0,_=>none
 | n+1,S=>(f S).bind fun x=>match x.1 with
  | .norm=>iter f n x.2
  | e=>some (e,x.2)
def zg (S:St) (c:X):Option Bool:=
 ((rd c).run S).bind fun
  | .one (.d (.bool b))=>some b
  | _=>none
def dq (Cl:bX) (n:Nat):mc→St→Option (tQ×St)
 | .skip,S=>some (.norm,S)
 | .iZ keep gc ops draw,S=>(pA Cl keep gc ops draw S).map fun S'=>(.norm,S')
 | .seq a b,S=>(dq Cl n a S).bind fun x=>match x.1 with
  | .norm=>dq Cl n b x.2
  | e=>some (e,x.2)
 | .cond c a b,S=>(zg S c).bind fun t=>if t then dq Cl n a S else dq Cl n b S
 | .block id b,S=>(dq Cl n b S).map fun x=>(match x.1 with | .exit i=>if i=id then .norm else .exit i | e=>e,x.2)
 | .loop b,S=>iter (dq Cl n b) n S
 | .exit id,S=>some (.exit id,S)
 | .ret,S=>some (.ret,S)
def ga:Nat→List V→St
 | _,[]=>[]
 | i,v::t=>(.s i,⟨v,0⟩)::ga (i+1) t
def Bj (r:aI):Nat→List C→St
 | _,[]=>[]
 | c,x::t=>(.b r c,⟨.one x,0⟩)::Bj r (c+1) t
def dm:Nat→List (List C)→St
 | _,[]=>[]
 | i,b::t=>(.r (.e i),⟨fy b.length,0⟩)::(Bj (.e i) 0 b++dm (i+1) t)
def G5 (ws:List Wr):RV→Q (V×List Wr)
 | .slot t=>tk ws (.t t)
 | .cell t n agg=>do
  let v ←rd (.s t)
  match v with
  | .one (.ptr r g c)=>do
   let e ←Q.at_ (.r r)
   Q.guard (!r.iW&&e.g==g&&decide (c+n≤cp e.v))
   let cs ←wv r c n
   let r' ←lY agg cs
   pure (r',ws)
  | _=>Q.no
def Hh (ws:List Wr):List C→Q (List C×List Wr)
 | []=>pure ([],ws)
 | c::cs=>do
  let (c',ws) ←tp ws ⟨.h 0,0,[]⟩ c
  let (ez,ws) ←Hh ws cs
  pure (c'::ez,ws)
def Tp (r:RV):Q (V×List Wr):=do
 let (v,ws) ←G5 [] r
 match v with
 | .one c=>do let (c',ws) ←tp ws ⟨.h 0,0,[]⟩ c;pure (.one c',ws)
 | .agg cs=>do let (ez,ws) ←Hh ws cs;pure (.agg ez,ws)
 | .aq _=>Q.no
def wA (ws:List Wr):List RV→Q (List V×List Wr)
 | []=>pure ([],ws)
 | r::t=>do
  let (v,ws) ←G5 ws r
  match v with
  | .one c=>do
   let (c',ws) ←st ws c
   let (vs,ws) ←wA ws t
   pure (.one c'.plain::vs,ws)
  | .agg cs=>do
   let (ez,ws) ←lI ws cs
   let (vs,ws) ←wA ws t
   pure (.agg (ez.map C.plain)::vs,ws)
  | .aq _=>Q.no
def To (forget:Bool):List RV→Q (V×List Wr)
 | [r]=>if forget then do
   let (vs,ws) ←wA [] [r]
   match vs with
   | [v]=>pure (v,ws)
   | _=>Q.no
  else Tp r
 | rs=>do let (vs,ws) ←wA [] rs;pure (.aq vs,ws)
def sY:List (aI×Nat)→Option aI
 | []=>none
 | (.l i,_)::_=>some (.l i)
 | _::t=>sY t
def GV (ws:List Wr):Nat→List (List C)→Q (List (List C))
 | _,[]=>pure []
 | i,b::t=>do
  let e ←sh ws (.r (.e i))
  Q.guard (cp e.v==b.length)
  let cs ←Az ws (.e i) 0 b.length
  let r ←GV ws (i+1) t
  pure (cs::r)
def oD:Nat→Nat→List aI
 | _,0=>[]
 | i,n+1=>.e i::oD (i+1) n
mutual
def V.leave (rs:List aI):V→Option V
 | .one c=>(c.ef rs).map .one
 | .agg cs=>(lV rs cs).map .agg
 | .aq vs=>(sU rs vs).map .aq
def sU (rs:List aI):List V→Option (List V)
 | []=>some []
 | v::t=>(v.leave rs).bind fun v'=>(sU rs t).map (v' :: ·)
end
def Ax:List (List C)→List (aI×Nat)
 | []=>[]
 | b::t=>kY b++Ax t
mutual
def V.Ay:V→List (aI×Nat)
 | .one c=>c.wo
 | .agg cs=>kY cs
 | .aq vs=>GZ vs
def GZ:List V→List (aI×Nat)
 | []=>[]
 | v::t=>v.Ay++GZ t
end
def vk (fn:lp) (bx:List (List C)):Q (V×List (List C)):=do
 let (v,ws) ←To fn.forget fn.results
 let out ←GV ws 0 bx
 match sY v.Ay with
 | none=>do
  xV ws (v.Ay++Ax out)
  let v' ←Q.dr (v.leave (oD 0 bx.length))
  let Di ←Q.dr (pI (oD 0 bx.length) out)
  pure (v',Di)
 | some r=>do
  let e ←sh ws (.r r)
  let cs ←Az ws r 0 (cp e.v)
  xV ws (v.Ay++Ax (out++[cs]))
  let v' ←Q.dr (v.leave (oD 0 bx.length++[r]))
  let Di ←Q.dr (pI (oD 0 bx.length++[r]) (out++[cs]))
  pure (v',Di)
def vh (Cl:bX) (n:Nat) (fn:lp) (args:List V) (bx:List (List C)):Option (V×List (List C)):=
 if args.length≤fn.Db then
  (dq Cl n fn.body (ga 0 args++dm 0 bx)).bind fun x=>
   match x.1 with
   | .exit _=>none
   | _=>(vk fn bx).run x.2
 else none
def nN (T:Nat→Option lp) (pO:bX):Nat→bX
 | 0=>fun _ _ _=>none
 | n+1=>fun f args bx=>match T f with
  | some fn=>vh (nN T pO n) n fn args bx
  | none=>pO f args bx
end
section
inductive DS where
 | int (k:IntKind)
 | bool
 | str
 | im (sz:Nat)
 | own (sz:Nat)
 | sl (sz:Nat)
 | tg (sz:Nat)
 | bt (t:Nat)
 | lq (f:Nat) (l:List (Nat×Nat))
 | ptr (i c:Nat)
 | cE
 | eX
 | dead
 | any
 deriving DecidableEq,Inhabited
abbrev DS.T:DS→Type
 | .int _=>Int
 | .bool=>Bool
 | .str=>List UInt8
 | .im _=>Bool×List (List D)
 | .own _=>List (List D)
 | .sl _=>Tag×List (List D)
 | .tg _=>Tag×List (List D)
 | .bt _=>Unit
 | .lq _ _=>Unit
 | .ptr _ _=>Unit
 | .cE=>Unit
 | .eX=>Unit
 | .dead=>Unit
 | .any=>D
abbrev au:List DS→Type
 | []=>Unit
 | s::t=>s.T×au t
def kq:(s:DS)→D→Option s.T
 | .any,x=>some x
 | .int k,.int k' n=>if k=k' then some n else none
 | .bool,.bool b=>some b
 | .str,.str s=>some s
 | .im sz,.sl (.im b) cu rows=>if sz=cu then some (b,rows) else none
 | .own sz,.sl .own cu rows=>if sz=cu then some rows else none
 | .sl sz,.sl t cu rows=>if sz=cu then some (t,rows) else none
 | .tg sz,.sl t cu rows=>if sz=cu then some (t,rows) else none
 | .dead,.dead=>some ()
 | _,_=>none
def eb:(ds:List DS)→List D→Option (au ds)
 | [],[]=>some ()
 | s::t,x::l=>match kq s x,eb t l with
  | some v,some w=>some (v,w)
  | _,_=>none
 | _,_=>none
def S8 {R:Type} (t:Tag) (k:Tag→Option R):Option R:=match t with | .im b=>k (.im b) | .own=>k .own
def BE {R:Type}:(s:DS)→s.T→(D→Option R)→Option R
 | .int k,n,K=>K (.int k n)
 | .bool,b,K=>K (.bool b)
 | .str,s,K=>K (.str s)
 | .im sz,x,K=>K (.sl (.im x.1) sz x.2)
 | .own sz,x,K=>K (.sl .own sz x)
 | .sl sz,x,K=>S8 x.1 fun t=>K (.sl t sz x.2)
 | .tg sz,x,K=>K (.sl x.1 sz x.2)
 | .bt _,_,K=>K .dead
 | .lq _ _,_,K=>K .dead
 | .ptr _ _,_,K=>K .dead
 | .cE,_,K=>K .dead
 | .eX,_,K=>K .dead
 | .dead,_,K=>K .dead
 | .any,x,K=>K x
def oC {R:Type}:(ds:List DS)→au ds→(List D→Option R)→Option R
 | [],_,K=>K []
 | s::t,v,K=>BE s v.1 fun x=>oC t v.2 fun l=>K (x::l)
def cw {R:Type} (ds:List DS) (l:List D) (K:au ds→Option R):Option R:=match eb ds l with | some v=>K v | none=>none
inductive VS where
 | one (s:DS)
 | fj
 | agg (ds:List DS)
 deriving DecidableEq,Inhabited
abbrev VS.T:VS→Type
 | .one s=>s.T
 | .fj=>Bool
 | .agg ds=>au ds
inductive RS where
 | val (v:VS) (bs:List (List DS))
 | aq (vs:List VS) (bs:List (List DS))
 deriving DecidableEq,Inhabited
abbrev yX:List VS→Type
 | []=>Unit
 | v::t=>v.T×yX t
abbrev yU:List (List DS)→Type
 | []=>Unit
 | b::t=>au b×yU t
abbrev RS.T:RS→Type
 | .val v bs=>v.T×yU bs
 | .aq vs bs=>yX vs×yU bs
abbrev ER:Nat:=999999
def w9:List (Nat×Nat)→List C→Bool
 | [],[]=>true
 | x::l,.ptr (.e i) g c::t=>Nat.beq x.1 i&&(Nat.beq g 0&&(Nat.beq x.2 c&&(!(Nat.beq i ER)&&w9 l t)))
 | x::l,.fn n [] []::t=>Nat.beq x.1 ER&&(Nat.beq x.2 n&&w9 l t)
 | _,_=>false
def Ip (x:Nat×Nat):C:=match Nat.beq x.1 ER with
 | true=>.fn x.2 [] []
 | false=>.ptr (.e x.1) 0 x.2
def xa:List (Nat×Nat)→List C
 | []=>[]
 | x::l=>Ip x::xa l
def Iq:List C→Option (List (Nat×Nat))
 | []=>some []
 | .fn n [] []::t=>match Iq t with
  | some l=>some ((ER,n)::l)
  | none=>none
 | .ptr (.e i) _ c::t=>match Iq t with
  | some l=>some ((i,c)::l)
  | none=>none
 | _::_=>none
def tX (s:DS) (c:C):Option s.T:=
 match c with
 | .d x=>kq s x
 | .fn f' [] cap=>match s with
  | .lq f l=>match Nat.beq f f',w9 l cap with
   | true,true=>some ()
   | _,_=>none
  | _=>none
 | .ptr (.e i') g c'=>match s with
  | .ptr i c=>match Nat.beq i i',Nat.beq g 0,Nat.beq c c' with
   | true,true,true=>some ()
   | _,_,_=>none
  | _=>none
 | .cE=>match s with
  | .cE=>some ()
  | _=>none
 | .eX=>match s with
  | .eX=>some ()
  | _=>none
 | .bt t'=>match s with
  | .bt t=>if t=t' then some () else none
  | _=>none
 | _=>none
def zh:(ds:List DS)→List C→Option (au ds)
 | [],[]=>some ()
 | s::t,x::l=>match tX s x,zh t l with
  | some v,some w=>some (v,w)
  | _,_=>none
 | _,_=>none
def xg {R:Type}:(s:DS)→s.T→(C→Option R)→Option R
 | .bt t,_,K=>K (.bt t)
 | .lq f l,_,K=>K (.fn f [] (xa l))
 | .ptr i c,_,K=>K (.ptr (.e i) 0 c)
 | .cE,_,K=>K .cE
 | .eX,_,K=>K .eX
 | .dead,_,K=>K (.d .dead)
 | .int k,v,K=>K (.d (.int k v))
 | .bool,v,K=>K (.d (.bool v))
 | .str,v,K=>K (.d (.str v))
 | .im sz,x,K=>K (.d (.sl (.im x.1) sz x.2))
 | .own sz,x,K=>K (.d (.sl .own sz x))
 | .sl sz,x,K=>S8 x.1 fun t=>K (.d (.sl t sz x.2))
 | .tg sz,x,K=>K (.d (.sl x.1 sz x.2))
 | .any,x,K=>K (.d x)
def oA:(s:VS)→V→Option s.T
 | .one s,.one c=>tX s c
 | .fj,.one .fR=>some true
 | .fj,.one .fj=>some false
 | .agg ds,.agg cs=>match na cs with | some l=>eb ds l | none=>none
 | _,_=>none
def zi:(ss:List VS)→List V→Option (yX ss)
 | [],[]=>some ()
 | s::t,x::l=>match oA s x,zi t l with
  | some v,some w=>some (v,w)
  | _,_=>none
 | _,_=>none
def tY {R:Type}:(ds:List DS)→au ds→(List C→Option R)→Option R
 | [],_,K=>K []
 | s::t,v,K=>xg s v.1 fun x=>tY t v.2 fun l=>K (x::l)
def sn:(ss:List (List DS))→List (List C)→Option (yU ss)
 | [],[]=>some ()
 | s::t,x::l=>match zh s x,sn t l with
  | some v,some w=>some (v,w)
  | _,_=>none
 | _,_=>none
def gW:(s:RS)→V×List (List C)→Option s.T
 | .val v bs,(x,out)=>match oA v x,sn bs out with
  | some a,some b=>some (a,b)
  | _,_=>none
 | .aq vs bs,(.aq xs,out)=>match zi vs xs,sn bs out with
  | some a,some b=>some (a,b)
  | _,_=>none
 | _,_=>none
def sq {R:Type}:(s:VS)→s.T→(V→Option R)→Option R
 | .one s,x,K=>xg s x fun y=>K (.one y)
 | .fj,b,K=>G0 b fun t=>match t with | true=>K (.one .fR) | false=>K (.one .fj)
 | .agg ds,x,K=>oC ds x fun l=>K (.agg (l.map .d))
def tZ {R:Type}:(ss:List VS)→yX ss→(List V→Option R)→Option R
 | [],_,K=>K []
 | s::t,x,K=>sq s x.1 fun v=>tZ t x.2 fun l=>K (v::l)
def py {R:Type}:(ss:List (List DS))→yU ss→(List (List C)→Option R)→Option R
 | [],_,K=>K []
 | s::t,x,K=>tY s x.1 fun l=>py t x.2 fun u=>K (l::u)
def q7 {R:Type}:(s:RS)→s.T→(V×List (List C)→Option R)→Option R
 | .val v bs,x,K=>sq v x.1 fun a=>py bs x.2 fun b=>K (a,b)
 | .aq vs bs,x,K=>tZ vs x.1 fun a=>py bs x.2 fun b=>K (.aq a,b)
def aG {R:Type} (s:RS) (o:Option (V×List (List C))) (K:s.T→Option R):Option R:=
 match o with
 | some x=>match gW s x with | some v=>K v | none=>none
 | none=>none
theorem OL {R:Type} (s:DS) (v:s.T) (K:D→Option R):BE s v K=(BE s v some).bind K:=by
 cases s<;>simp only [BE,Option.bind];case sl sz=>obtain ⟨t,rows⟩:=v;cases t<;>rfl
theorem xh {R:Type}:(ds:List DS)→(v:au ds)→(K:List D→Option R)→oC ds v K=(oC ds v some).bind K
 | [],_,_=>rfl
 | s::t,v,K=>by
  simp only [oC];rw [OL s v.1,OL s v.1 (fun x=>oC t v.2 fun l=>some (x::l))];cases BE s v.1 some with
  | none=>rfl
  | some x=>
   simp only [Option.bind];rw [xh t v.2,xh t v.2 (fun l=>some (x::l))];cases oC t v.2 some<;>rfl
theorem BA {R:Type} (s:DS) (v:s.T) (K:C→Option R):xg s v K=(xg s v some).bind K:=by
 cases s<;>simp only [xg,Option.bind];case sl sz=>obtain ⟨t,rows⟩:=v;cases t<;>rfl
theorem BF {R:Type} (s:VS) (v:s.T) (K:V→Option R):sq s v K=(sq s v some).bind K:=by
 cases s with
 | one s=>simp only [sq];rw [BA,BA s v (fun y=>some (V.one y))];cases xg s v some<;>rfl
 | fj=>cases v<;>rfl
 | agg ds=>simp only [sq];rw [xh,xh ds v (fun l=>some (V.agg (l.map .d)))];cases oC ds v some<;>rfl
theorem BH {R:Type}:(ss:List VS)→(v:yX ss)→(K:List V→Option R)→tZ ss v K=(tZ ss v some).bind K
 | [],_,_=>rfl
 | s::t,v,K=>by
  simp only [tZ];rw [BF s v.1,BF s v.1 (fun x=>tZ t v.2 fun l=>some (x::l))];cases sq s v.1 some with
  | none=>rfl
  | some x=>
   simp only [Option.bind];rw [BH t v.2,BH t v.2 (fun l=>some (x::l))];cases tZ t v.2 some<;>rfl
theorem BD {R:Type}:(ds:List DS)→(v:au ds)→(K:List C→Option R)→tY ds v K=(tY ds v some).bind K
 | [],_,_=>rfl
 | s::t,v,K=>by
  simp only [tY];rw [BA s v.1,BA s v.1 (fun x=>tY t v.2 fun l=>some (x::l))];cases xg s v.1 some with
  | none=>rfl
  | some x=>
   simp only [Option.bind];rw [BD t v.2,BD t v.2 (fun l=>some (x::l))];cases tY t v.2 some<;>rfl
theorem ve {R:Type}:(ss:List (List DS))→(v:yU ss)→(K:List (List C)→Option R)→py ss v K=(py ss v some).bind K
 | [],_,_=>rfl
 | s::t,v,K=>by
  simp only [py];rw [BD s v.1,BD s v.1 (fun l=>py t v.2 fun u=>some (l::u))];cases tY s v.1 some with
  | none=>rfl
  | some x=>
   simp only [Option.bind];rw [ve t v.2,ve t v.2 (fun u=>some (x::u))];cases py t v.2 some<;>rfl
theorem XW {R:Type} (s:RS) (v:s.T) (K:V×List (List C)→Option R):q7 s v K=(q7 s v some).bind K:=by
 cases s with
 | val s bs=>
  simp only [q7];rw [BF s v.1,BF s v.1 (fun a=>py bs v.2 fun b=>some (a,b))];cases sq s v.1 some with
  | none=>rfl
  | some x=>
   simp only [Option.bind];rw [ve,ve bs v.2 (fun b=>some (x,b))];cases py bs v.2 some<;>rfl
 | aq ss bs=>
  simp only [q7];rw [BH ss v.1,BH ss v.1 (fun a=>py bs v.2 fun b=>some (V.aq a,b))];cases tZ ss v.1 some with
  | none=>rfl
  | some x=>
   simp only [Option.bind];rw [ve,ve bs v.2 (fun b=>some (V.aq x,b))];cases py bs v.2 some<;>rfl
def Q.row (ds:List DS) (l:List D):Q (List D):=
 .oz (fun _ k=>cw ds l fun v=>oC ds v k)
  (by intro R k;unfold cw;cases eb ds l with | none=>rfl | some v=>exact xh ds v k) .ret
def Q.res (s:RS) (o:Option (V×List (List C))):Q (V×List (List C)):=
 .oz (fun _ k=>aG s o fun v=>q7 s v k)
  (by
    intro R k
    unfold aG
    cases o with
    | none => rfl
    | some x =>
      simp only
      cases gW s x with
      | none => rfl
      | some v => exact XW s v k) .ret
def sW {α:Type}:List (Nat×α)→Nat→Option α
 | [],_=>none
 | (i,x)::t,n=>match Nat.beq i n with | true=>some x | false=>sW t n
def ae (n:Nat):Int:=n
def cm (n:Int):Option Nat:=if 0≤n then some n.toNat else none
def bY (R:List (List D)) (i c:Nat) (z:D):List (List D):=R.set i ((R.getD i []).set c z)
def whole (R:List (List D)):List (List D):=List.take R.length (List.drop 0 R)
def gd {R:Type} (b:Bool) (x:Option R):Option R:=bif b then x else none
def aN {R:Type} (n:Nat) (x:Option R):Option R:=bif decide (n≤9223372036854775807) then x else none
def rA {R:Type} (ds:List DS) (c n:Nat) (L:List (List D)) (i:Nat) (K:au ds→Option R):Option R:=
 aH L[i]? fun o=>bif decide (n≤(List.drop c o).length) then cw ds (List.take n (List.drop c o)) K else none
def Au {R:Type} (x y:Option R):Option R:=match x with | some r=>some r | none=>y
def cC:(s:DS)→s.T→C
 | .int k,n=>.d (.int k n)
 | .bool,b=>.d (.bool b)
 | .str,s=>.d (.str s)
 | .im sz,x=>.d (.sl (.im x.1) sz x.2)
 | .own sz,x=>.d (.sl .own sz x)
 | .sl sz,x=>.d (.sl x.1 sz x.2)
 | .tg sz,x=>.d (.sl x.1 sz x.2)
 | .bt t,_=>.bt t
 | .lq f l,_=>.fn f [] (xa l)
 | .ptr i c,_=>.ptr (.e i) 0 c
 | .cE,_=>.cE
 | .eX,_=>.eX
 | .dead,_=>.d .dead
 | .any,x=>.d x
def bx:(ds:List DS)→au ds→List C
 | [],_=>[]
 | s::t,v=>cC s v.1::bx t v.2
def Ul (ds:List DS) (c:List C):Option (au ds):=zh ds c
structure iQ where
 row:Nat→Option (List DS)
 res:Nat→Option RS
 JL:Nat→Nat→Bool
 no:Nat→Bool
def shD (im:Bool):D→Option DS
 | .int k _=>some (.int k)
 | .bool _=>some .bool
 | .str _=>some .str
 | .sl _ sz _=>some (if im then .im sz else .tg sz)
 | .dead=>some .dead
def AK (im:Nat→Bool):Nat→List C→Option (List DS)
 | _,[]=>some []
 | i,.bt k::t=>match AK (fun _=>false) (i+1) t with
  | some b=>some (.bt k::b)
  | none=>none
 | i,.fn f [] cap::t=>match Iq cap,AK im (i+1) t with
  | some l,some b=>some (.lq f l::b)
  | _,_=>none
 | i,.ptr (.e j) _ c::t=>match AK im (i+1) t with
  | some b=>some (.ptr j c::b)
  | none=>none
 | i,.cE::t=>match AK im (i+1) t with
  | some b=>some (.cE::b)
  | none=>none
 | i,.eX::t=>match AK im (i+1) t with
  | some b=>some (.eX::b)
  | none=>none
 | i,.d x::t=>match shD (im i) x,AK im (i+1) t with
  | some a,some b=>some (a::b)
  | _,_=>none
 | _,_::_=>none
def adt (JL:Nat→Nat→Bool):List (List C)→Option (List (List DS))
 | []=>some []
 | b::t=>match AK (JL b.length) 0 b,adt JL t with
  | some x,some y=>some (x::y)
  | _,_=>none
def RS.aq6:RS→List (List DS)→RS
 | .val v _,bs=>.val v bs
 | .aq vs _,bs=>.aq vs bs
def Dy (an:iQ) (dst:Nat) (l:List D):Q (List D):=
 match an.row dst with
 | some ds=>Q.row ds l
 | none=>pure l
def RS.boxes:RS→List (List DS)
 | .val _ bs=>bs
 | .aq _ bs=>bs
def Tn (an:iQ) (f:Nat) (bs:List (List C)) (o:Option (V×List (List C))):Q (V×List (List C)):=
 match an.no f with
 | true=>Q.no
 | false=>match an.res f with
  | some s=>match s.boxes with
   | _::_=>Q.res s o
   | []=>match adt an.JL bs with
    | some b=>Q.res (s.aq6 b) o
    | none=>Q.dr o
  | none=>Q.dr o
def Yt (vs:List V):DS→DS
 | .lq f []=>match Nat.beq f kM,vs with
  | true,.one (.fn _ _ cap)::_=>match Iq cap with
   | some l=>.lq f l
   | none=>.lq f []
  | _,_=>.lq f []
 | d=>d
def aiR (vs:List V):RS→RS
 | .val v bs=>.val v (bs.map fun b=>b.map (Yt vs))
 | .aq v bs=>.aq v (bs.map fun b=>b.map (Yt vs))
def iQ.aiX (an:iQ) (vs:List V):iQ:={ an with res:=fun f=>(an.res f).map (aiR vs) }
def On (an:iQ) (Cl:bX) (dst:Nat) (f:Nat) (vs:List V) (ws:List Wr):Q (V×List Wr):=do
 xV ws (tD vs)
 let (rs,bs) ←zr ws 40 (sd [] (tD vs)) 0
 let eR ←Q.dr (uu rs vs)
 let dM ←Q.dr (pI rs bs)
 let (r,out) ←Tn (an.aiX eR) f dM (Cl f eR dM)
 if rs.isEmpty&&r.flat&&out.isEmpty then pure (r,[])
 else do
  let gs ←BS rs
  if out.length=rs.length then do
   let r' ←Q.dr (r.pN gs)
   let cK ←Q.dr (rE gs out)
   Q.guard (sV cK bs)
   pure (r',jH rs cK bs ws)
  else do
   let e ←sh ws (.r (.l dst))
   let ES:=gs++[(.l dst,e.g+1)]
   let r' ←Q.dr (r.pN ES)
   let cK ←Q.dr (rE ES out)
   let nb:=cK.getD rs.length []
   Q.guard (out.length==rs.length+1&&sV (cK.take rs.length) bs&&(cp e.v==0||cp e.v==nb.length) && !rs.contains (.l dst))
   pure (r',gf (.l dst) 0 nb ({ k:=.r (.l dst),v:=fy nb.length } :: jH rs cK bs ws))
def NW (tc:TC) (op:BinOp) (x y:V):Q D:=
 match x,y with
 | .one (.d (.int k a)),.one (.d (.int k' b))=>
  match op with
  | .quo=>do Q.guard (decide (k=k') && !decide (b=0));pure (.int k (k.wrap (a.tdiv b)))
  | .rem=>do Q.guard (decide (k=k') && !decide (b=0));pure (.int k (a.tmod b))
  | .shl=>do Q.guard (!decide (b < 0));pure (.int k (k.wrap (a * 2 ^ (Min.min b.toNat k.bits))))
  | .shr=>do Q.guard (!decide (b < 0));pure (.int k (a.fdiv (2 ^ (Min.min b.toNat k.bits))))
  | _=>Q.dr (si tc op x y)
 | .one (.d (.str a)),.one (.d (.str b))=>
  match op with
  | .add=>do Q.guard (decide (a.length+b.length≤9223372036854775807));pure (.str (a++b))
  | _=>Q.dr (si tc op x y)
 | _,_=>Q.dr (si tc op x y)
def Bc (sz bytes:Nat) (v:V) (ws:List Wr) (src:List (List D)):Q (V×List Wr):=
 match v with
 | .one (.d (.sl (.im b) cu _))=>do
  Q.guard (fS bytes src false&&(b&&cu==sz&&decide (src.length * bytes≤140737488355328)))
  let e ←Q.ask src.isEmpty
  pure (.one (.d (.sl (if e then .im true else .own) sz src)),ws)
 | v=>wX sz bytes v ws src
def ED (pl:Place) (i:Nat):V→Nat→List D→List D→D→List Wr→List Wr
 | v,c,z::t,o::os,x,ws=>
  ED pl i (v.setCell pl.j (.d (eF x (pl.p++[(i,c)]) z))) (c+1) t os (eF x (pl.p++[(i,c)]) z)
   ({ k:=pl.k,v:=v.setCell pl.j (.d (eF x (pl.p++[(i,c)]) z)),keep:=z.flat&&o.flat } :: { k:=.a pl.k,v:=V.dead } :: ws)
 | _,_,_,_,_,ws=>ws
def T6 (ws:List Wr) (P:Place):C→Q (C×List Wr)
 | .view pl g sz off len=>
  match !(pl.k==P.k)&&pl.k.GC with
  | true=>do
   let (e,x,rows) ←jw ws pl g sz
   Q.guard (off==0&&len==rows.length && !rows.isEmpty)
   pure (.d (.sl .own sz rows),nA ws pl.k (sR e.v pl x))
  | false=>tp ws P (.view pl g sz off len)
 | c=>tp ws P c
def acw (mv:Bool) (ws:List Wr) (P:Place) (y:C):Q (C×List Wr):=if mv then T6 ws P y else pa ws P y
def Md (mv:Bool) (r:aI) (ws:List Wr):Nat→List C→Q (List C×List Wr)
 | _,[]=>pure ([],ws)
 | c,y::t=>do
  let (y',ws) ←acw mv ws ⟨.b r c,0,[]⟩ y
  let (ys,ws) ←Md mv r ws (c+1) t
  pure (y'::ys,ws)
def Bv:List (Nat×Nat)→List (Nat×Nat)→Bool
 | [],[]=>true
 | (_,c)::p,(_,c')::p'=>Nat.beq c c'&&Bv p p'
 | _,_=>false
def FN:List (Nat×Nat)→List (Nat×Nat)→Bool
 | [],[]=>true
 | (i,_)::p,(i',_)::p'=>FN p p'&&Nat.beq i i'
 | _,_=>false
def T3 (ws:List Wr) (P:Place):C→Q (C×List Wr)
 | .c8 pl g a sz rows=>match (pl.k==P.k)&&(Nat.beq pl.j P.j&&Bv pl.p P.p) with
  | true=>do
   Q.guard (FN pl.p P.p)
   settle ws pl g a sz rows
  | false=>pa ws P (.c8 pl g a sz rows)
 | c=>pa ws P c
def IZ (P:Place) (i:Nat) (ws:List Wr):Nat→List C→Q (List D×List Wr)
 | _,[]=>pure ([],ws)
 | c,y::t=>do
  let (y',ws) ←T3 ws (P.sub i c) y
  match y' with
  | .d z=>do
   let (zs,ws) ←IZ P i ws (c+1) t
   pure (z::zs,ws)
  | _=>Q.no
def ME:X→Nat
 | .s i=>i
 | .t i=>i
 | _=>0
def su (an:iQ) (Cl:bX) (dst:Nat):pj→Q (V×List Wr)
 | .pick c a b=>do
  let v ←rd c
  match v with
  | .one (.d (.bool t))=>do
   let t ←Q.ask t
   let r ←rd (if t then a else b)
   pure (r,[])
  | _=>Q.no
 | .load n agg x=>do
  let v ←rd x
  match v with
  | .one (.ptr r g c)=>do
   let e ←Q.at_ (.r r)
   Q.guard (!r.iW&&e.g==g&&decide (c+n≤cp e.v))
   let cs ←wv r c n
   let r' ←lY agg cs
   pure (r',[])
  | .one (.pp cells)=>do
   Q.guard (decide (n≤cells.length))
   let l ←Dy an dst (cells.take n)
   let r' ←lY agg (l.map .d)
   pure (r',[])
  | .one (.eD pl g sz i c)=>do
   let (_,_,rows) ←jw [] pl g sz
   let row ←Q.dr rows[i]?
   Q.guard (decide (c+n≤row.length))
   let l ←Dy an dst ((row.drop c).take n)
   let r' ←lY agg (rB pl g i c l)
   pure (r',[])
  | .one (.fn t f l)=>do
   let l ←Q.dr (BP (kM+1) (.fn t f l))
   Q.guard (l.length==n)
   let r' ←lY agg l
   pure (r',[])
  | _=>Q.no
 | .store mv n x v=>do
  let p ←rd x
  let (vv,ws) ←tk [] v
  Q.guard (vv.cells.length==n)
  match p with
  | .one (.ptr r g c)=>do
   let (cs,ws) ←Md mv r ws c vv.cells
   let e ←sh ws (.r r)
   Q.guard (!r.iW&&e.g==g&&decide (c+n≤cp e.v))
   pure (.aq [],gf r c cs ws)
  | .one (.eD pl g sz i c)=>do
   let (zs,ws) ←IZ pl i ws c vv.cells
   let (e,x0,rows) ←jw ws pl g sz
   let row ←Q.dr rows[i]?
   Q.guard (decide (c+n≤row.length)&&zs.length==n)
   let dJ ←Dy an (ME x) ((row.drop c).take n)
   Q.guard (dJ.length==n&&Hp zs dJ)
   pure (.aq [],ED pl i e.v c zs dJ x0 ws)
  | _=>Q.no
 | .bin tc op x y=>do
  let a ←rd x
  let b ←rd y
  let r ←NW tc op a b
  pure (.one (.d r),[])
 | .app sz bytes x y=>do
  let (a,ws) ←tk [] y
  let (src,ws) ←rowsOf sz ws a
  let (v,ws) ←tk ws x
  Bc sz bytes v ws src
 | .Be sz bytes x y=>do
  let a ←rd y
  match a with
  | .one (.view pl g cu off len)=>do
   let (_,_,rows) ←jw [] pl g cu
   Q.guard (cu==sz&&decide (off+len≤rows.length)&&sw ((rows.drop off).take len))
   let (v,ws) ←tk [] x
   Bc sz bytes v ws ((rows.drop off).take len)
  | _=>do
   let (a,ws) ←tk [] y
   let (src,ws) ←rowsOf sz ws a
   let (v,ws) ←tk ws x
   Bc sz bytes v ws src
 | .Bb x y=>do
  let a ←rd y
  match a with
  | .one (.d (.str s))=>do
   let (v,ws) ←tk [] x
   Bc 1 1 v ws (D.dc s)
  | _=>Q.no
 | .call f args=>do
  let vf ←rd f
  match vf with
  | .one (.fn n first cap)=>do
   Q.guard (z8 n)
   let (vs,ws) ←yp [] args
   On an Cl dst n (first.map .one++vs++cap.map .one) ws
  | _=>Q.no
 | op=>bp Cl dst op
def IU {R:Type}:Nat→Nat→Nat→(Nat→Option R)→Option R
 | 0,_,_,_=>none
 | f+1,i,g,K=>match Nat.beq g i with | true=>K i | false=>IU f (i+1) g K
def fN {R:Type} (g:Nat) (K:Nat→Option R):Option R:=IU 400 0 g K
def IV {R:Type}:aI→(aI→Option R)→Option R
 | .e i,K=>K (.e i)
 | .l i,K=>K (.l i)
 | .g i,K=>K (.g i)
def IT {R:Type}:Key→(Key→Option R)→Option R
 | .s i,K=>K (.s i)
 | .b r c,K=>IV r fun r=>fN c fun c=>K (.b r c)
 | .r r,K=>IV r fun r=>K (.r r)
 | .h i,K=>K (.h i)
 | .a k,K=>IT k fun k=>K (.a k)
def fD {R:Type}:D→(D→Option R)→Option R
 | .int k n,K=>K (.int k n)
 | .bool b,K=>K (.bool b)
 | .str s,K=>K (.str s)
 | .sl t sz rows,K=>K (.sl t sz rows)
 | .dead,K=>K .dead
def fC {R:Type}:C→(C→Option R)→Option R
 | .d x,K=>fD x fun x=>K (.d x)
 | .ptr r g c,K=>IV r fun r=>fN g fun g=>fN c fun c=>K (.ptr r g c)
 | .eD pl g sz i c,K=>fN g fun g=>fN c fun c=>K (.eD pl g sz i c)
 | .view pl g sz off len,K=>fN g fun g=>K (.view pl g sz off len)
 | .c8 pl g a sz rows,K=>fN g fun g=>fN a fun a=>K (.c8 pl g a sz rows)
 | .pp cells,K=>K (.pp cells)
 | .fn f a b,K=>K (.fn f a b)
 | .cE,K=>K .cE
 | .eX,K=>K .eX
 | .fR,K=>K .fR
 | .fj,K=>K .fj
 | .bt t,K=>K (.bt t)
 | .mp x,K=>fD x fun x=>K (.mp x)
 | .gj i g,K=>fN g fun g=>K (.gj i g)
 | .dead,K=>K .dead
def BL {R:Type}:List C→(List C→Option R)→Option R
 | [],K=>K []
 | c::t,K=>fC c fun c=>BL t fun t=>K (c::t)
def zo {R:Type}:List V→(List V→Option R)→Option R
 | [],K=>K []
 | .one c::t,K=>fC c fun c=>zo t fun t=>K (.one c::t)
 | .agg cs::t,K=>BL cs fun cs=>zo t fun t=>K (.agg cs::t)
 | .aq vs::t,K=>zo t fun t=>K (.aq vs::t)
def fV {R:Type}:V→(V→Option R)→Option R
 | .one c,K=>fC c fun c=>K (.one c)
 | .agg cs,K=>BL cs fun cs=>K (.agg cs)
 | .aq vs,K=>zo vs fun vs=>K (.aq vs)
def IQ {R:Type}:List (List C)→(List (List C)→Option R)→Option R
 | [],K=>K []
 | c::t,K=>BL c fun c=>IQ t fun t=>K (c::t)
def Yl {R:Type}:Bool→(Bool→Option R)→Option R
 | true,K=>K true
 | false,K=>K false
def IY {R:Type}:List Wr→(List Wr→Option R)→Option R
 | [],K=>K []
 | ⟨k,v,b⟩::t,K=>IT k fun k=>fV v fun v=>Yl b fun b=>IY t fun t=>K (⟨k,v,b⟩::t)
def BM {R:Type}:St→(St→Option R)→Option R
 | [],K=>K []
 | (k,⟨v,g⟩)::t,K=>IT k fun k=>fV v fun v=>fN g fun g=>BM t fun t=>K ((k,⟨v,g⟩)::t)
def IW {R:Type}:St→(St→Option R)→Option R
 | [],K=>K []
 | (k,⟨v,g⟩)::t,K=>fN g fun g=>IW t fun t=>K ((k,⟨v,g⟩)::t)
def runK {α R:Type} (S:St):Q α→List Key→(α→List Key→Option R)→Option R
 | .ret a,rs,K=>K a rs
 | .get k f,rs,K=>runK S (f (S.get k)) (k::rs) K
 | .oz h _ f,rs,K=>h R fun b=>runK S (f b) rs K
 | .no,_,_=>none
def UD {R:Type} (S:St) (g:Option (Nat×Bool)) (K:Bool→St→List Key→Option R):Option R:=
 match g with
 | none=>K true S []
 | some (t,b)=>match S.get (.s t) with
  | ⟨.one (.d (.bool x)),c⟩=>G0 x fun x'=>K (x'==b) (S.put (.s t) ⟨.one (.d (.bool x')),c⟩) [.s t]
  | ⟨.aq [],_⟩=>K false S [.s t]
  | _=>none
def BJ {R:Type} (r:aI):Nat→Nat→St→(St→Option R)→Option R
 | 0,_,S,K=>K S
 | n+1,c,S,K=>match S.get (.b r c) with
  | ⟨.one (.d (.sl t sz rows)),g⟩=>S8 t fun t'=>BJ r n (c+1) (S.put (.b r c) ⟨.one (.d (.sl t' sz rows)),g⟩) K
  | _=>BJ r n (c+1) S K
def EL {R:Type} (n:Nat) (v:V) (S:St) (K:St→Option R):Option R:=
 match v with
 | .one (.ptr r _ c)=>BJ r n c S K
 | _=>K S
def Pb {R:Type} (op:pj) (S:St) (K:St→Option R):Option R:=
 match op with
 | .load n _ (.s i)=>EL n (S.get (.s i)).v S K
 | .load n _ (.t i)=>EL n (S.get (.s i)).v S K
 | _=>K S
def EK {R:Type}:List RV→St→(St→Option R)→Option R
 | [],S,K=>K S
 | .cell t n _::l,S,K=>EL n (S.get (.s t)).v S fun S=>EK l S K
 | .slot _::l,S,K=>EK l S K
def IN {R:Type} (an:iQ) (Cl:bX) (o:gy) (S:St) (K:St→List Key→List Wr→Option R):Option R:=
 UD S o.guard fun want S rs=>
  match want with
  | true=>Pb o.op S fun S=>runK S (su an Cl (o.dst.getD 0) o.op) rs fun x rs=>
   match o.dst with
   | some d=>K S rs ({ k:=.s d,v:=x.1 } :: x.2)
   | none=>K S rs x.2
  | false=>match o.dst with
   | some d=>K S rs [{ k:=.s d,v:=.aq [] }]
   | none=>K S rs []
def EG {R:Type} (an:iQ) (Cl:bX):List gy→St→(St→Option R)→Option R
 | [],S,K=>K S
 | o::t,S,K=>IN an Cl o S fun S _ ws=>IY ws fun ws=>IW (S.ah ws) fun S=>EG an Cl t S K
def EH {R:Type} (an:iQ) (Cl:bX):List gy→St→List lP→(St→List lP→Option R)→Option R
 | [],S,fs,K=>K S fs.reverse
 | o::t,S,fs,K=>IN an Cl o S fun S rs ws=>IY ws fun ws=>IW (S.ah ws) fun S=>EH an Cl t S (⟨rs.reverse,ws.map (·.k)⟩::fs) K
def St.mM (keep:Option (List Nat)) (gc:Bool) (S:St):Option St:=
 (match keep with | some l=>S.norm l | none=>some S).bind fun S1=>if gc then S1.gc else some S1
def OT {R:Type} (an:iQ) (Cl:bX) (ops:List gy) (draw:Option (List (Nat×Nat))) (S:St) (K:St→Option R):Option R:=
 match draw with
 | none=>EG an Cl ops S K
 | some []=>EG an Cl ops S K
 | some ps=>EH an Cl ops S [] fun S' fs=>match SN fs ps with | true=>K S' | false=>none
inductive jF where
 | skip
 | iZ (keep:Option (List Nat)) (gc:Bool) (ops:List gy) (draw:Option (List (Nat×Nat)))
 | seq (a b:jF)
 | cond (c:X) (a b:jF)
 | block (id:Nat) (body:jF)
 | loop (id:Nat) (keep:Option (List Nat)) (gc:Bool) (body:jF)
 | join (id:Nat) (keep:Option (List Nat)) (gc:Bool) (a b:jF)
 | exit (id:Nat)
 | ret
 deriving Inhabited
def kH (keep:Option (List Nat)) (gc:Bool):mc→mc
 | .iZ _ _ ops draw=>.iZ keep gc ops draw
 | .seq a b=>.seq (kH keep gc a) b
 | .block id b=>.block id (kH keep gc b)
 | c=>c
def jF.Ca:jF→Bool
 | .iZ none false _ _=>true
 | .seq a _=>a.Ca
 | .join _ _ _ a _=>a.Ca
 | .block _ b=>b.Ca
 | _=>false
def eL:jF→mc
 | .skip=>.skip
 | .iZ keep gc ops draw=>.iZ keep gc ops draw
 | .seq a b=>.seq (eL a) (eL b)
 | .cond c a b=>.cond c (eL a) (eL b)
 | .block id b=>.block id (eL b)
 | .loop _ keep gc b=>.loop (kH keep gc (eL b))
 | .join _ keep gc a b=>.seq (eL a) (kH keep gc (eL b))
 | .exit id=>.exit id
 | .ret=>.ret
abbrev kG (R:Type):=tQ→St→Option R
def DC {R:Type} (f:St→kG R→Option R) (K:kG R):kG R:=fun e S=>
 match e with
 | .norm=>f S K
 | .exit i=>K (.exit i) S
 | .ret=>K .ret S
def NZ {R:Type} (id:Nat) (K:kG R):kG R:=fun e S=>
 match e with
 | .norm=>K .norm S
 | .exit i=>match Nat.beq i id with | true=>K .norm S | false=>K (.exit i) S
 | .ret=>K .ret S
def Si {R:Type} (keep:Option (List Nat)) (gc:Bool) (next:St→Option R) (K:kG R):kG R:=fun e S=>
 match e with
 | .norm=>match S.mM keep gc with | some S1=>BM S1 next | none=>none
 | .exit i=>K (.exit i) S
 | .ret=>K .ret S
def CA {R:Type} (id:Nat) (f:St→kG R→Option R) (keep:Option (List Nat)) (gc:Bool):Nat→St→kG R→Option R
 | 0,_,_=>none
 | m+1,S,K=>f S (Si keep gc (fun S1=>CA id f keep gc m S1 K) K)
def Rm {R:Type} (id:Nat) (f:St→kG R→Option R):Nat→St→kG R→Option R
 | 0,_,_=>none
 | _+1,S,K=>f S K
def Rk {R:Type} (id:Nat) (keep:Option (List Nat)) (gc:Bool) (m:Nat) (f:St→kG R→Option R):St→kG R→Option R:=fun S K=>
 match S.mM keep gc with
 | some S1=>BM S1 fun S1=>Rm id f m S1 K
 | none=>none
def OE {R:Type} (S:St) (c:X) (K:Bool→St→Option R):Option R:=
 match c with
 | .s i=>match S.get (.s i) with
  | ⟨.one (.d (.bool b)),g⟩=>G0 b fun t=>K t (S.put (.s i) ⟨.one (.d (.bool t)),g⟩)
  | _=>none
 | c=>runK S (rd c) [] fun v _=>match v with
  | .one (.d (.bool b))=>G0 b fun t=>K t S
  | _=>none
def kL {R:Type} (an:iQ) (Cl:bX) (n:Nat):jF→St→kG R→Option R
 | .skip,S,K=>K .norm S
 | .iZ keep gc ops draw,S,K=>match S.mM keep gc with
  | some S1=>BM S1 fun S1=>OT an Cl ops draw S1 fun S'=>K .norm S'
  | none=>none
 | .seq a b,S,K=>kL an Cl n a S (DC (kL an Cl n b) K)
 | .cond c a b,S,K=>OE S c fun t S=>match t with
  | true=>kL an Cl n a S K
  | false=>kL an Cl n b S K
 | .block id b,S,K=>kL an Cl n b S (NZ id K)
 | .loop id keep gc b,S,K=>match b.Ca with
  | true=>match S.mM keep gc with
   | some S1=>BM S1 fun S1=>CA id (kL an Cl n b) keep gc n S1 K
   | none=>none
  | false=>none
 | .join id keep gc a b,S,K=>match b.Ca with
  | true=>kL an Cl n a S (DC (Rk id keep gc n (kL an Cl n b)) K)
  | false=>none
 | .exit id,S,K=>K (.exit id) S
 | .ret,S,K=>K .ret S
structure u4 where
 Db:Nat
 results:List RV
 body:jF
 forget:Bool
 deriving Inhabited
def u4.fn (k:u4):lp:=⟨k.Db,k.results,eL k.body,k.forget⟩
def Tr (results:List RV) (forget:Bool) (bx:List (List C)):kG (V×List (List C)):=fun e S=>
 match e with
 | .exit _=>none
 | _=>EK results S fun S=>runK S (vk ⟨0,results,.skip,forget⟩ bx) [] fun x _=>fV x.1 fun v=>IQ x.2 fun b=>some (v,b)
def EF (an:iQ) (Cl:bX) (n:Nat) (fn:u4) (args:List V) (bx:List (List C)):Option (V×List (List C)):=
 match Nat.ble args.length fn.Db with
 | true=>kL an Cl n fn.body (ga 0 args++dm 0 bx) (Tr fn.results fn.forget bx)
 | false=>none
end
section
inductive bS where
 | bh
 | row (pl:Place) (o:Nat)
 | box (r:aI) (o:Nat)
abbrev aw:=Nat→Option bS
def jD (n:Nat) (fz:Nat×Nat):Prop:=∀j,j < n→¬ (fz.1≤j∧j < fz.2)
def cellOf (rows:List (List D)) (i c:Nat):Option D:=(rows[i]?).bind (·[c]?)
theorem kK {rows:List (List D)} {i c:Nat} {x:D}:cellOf rows i c=some x↔∃r,rows[i]? = some r∧r[c]? = some x:=by
 unfold cellOf;cases rows[i]?<;>simp
inductive fL (w:World) (L:aw):D→Value→Prop where
 | int {k n}:fL w L (.int k n) (.int k n)
 | bool {b}:fL w L (.bool b) (.bool b)
 | str {s}:fL w L (.str s) (.string ⟨s.toArray⟩)
 | nil {sz}:fL w L (.sl (.im true) sz []) (.slice none 0 0)
 | mL {sz a cap}:fL w L (.sl (.im false) sz []) (.slice (some a) 0 cap)
 | dead {v} (h:v.oneCell'=true):fL w L .dead v
 | pl {sz rows B o cap cur e fz} (val:Nat→Nat→Value) (aA:rows≠[]) (bf:0 < sz) (dN:rows.length≤cap) (hL:L B=some .bh)
  (hB:w.heap[B]? = some (.cells cur e fz)) (hlen:∀r∈rows,r.length=sz)
  (hv:∀i c x,cellOf rows i c=some x→cur[o+i * sz+c]? = some (val i c))
  (hr:∀i c x,cellOf rows i c=some x→fL w L x (val i c)) :
  fL w L (.sl (.im false) sz rows) (.slice (some ⟨B,o,none⟩) rows.length cap)
def tT (rows:List (List D)) (e:Nat):Prop:=(lZ rows=false∨rows=[])→e=5
inductive br (w:World) (L:aw):Place→D→Value→Prop where
 | plain {pl x v} (h:fL w L x v):br w L pl x v
 | jl {pl sz a}:br w L pl (.sl .own sz []) (.slice (some a) 0 0)
 | own {pl sz rows B o cap cur e fz} (val:Nat→Nat→Value) (bf:0 < sz) (hL:L B=some (.row pl o))
  (hB:w.heap[B]? = some (.cells cur e fz)) (cU:jD cur.size fz) (hlen:∀r∈rows,r.length=sz)
  (dN:rows.length≤cap) (dI:o+cap * sz≤cur.size)
  (hv:∀i c x,cellOf rows i c=some x→cur[o+i * sz+c]? = some (val i c))
  (hr:∀i c x,cellOf rows i c=some x→br w L (pl.sub i c) x (val i c)) (hu:tT rows e) :
  br w L pl (.sl .own sz rows) (.slice (some ⟨B,o,none⟩) rows.length cap)
theorem fL.wm {w:World} {L:aw} {x:D} {v:Value} (h:fL w L x v):v.oneCell'=true:=by
 cases h<;>first | rfl | assumption
theorem br.wm {w:World} {L:aw} {pl:Place} {x:D} {v:Value} (h:br w L pl x v):v.oneCell'=true:=by
 cases h with
 | plain h=>exact h.wm
 | jl=>rfl
 | own=>rfl
def r8 (w w':World) (L L':aw):Prop:=∀B,L B=some .bh→L' B=some .bh∧w'.heap[B]? = w.heap[B]?
theorem fL.mono {w w':World} {L L':aw} (fT:r8 w w' L L') {x:D} {v:Value} (h:fL w L x v):fL w' L' x v:=by
 induction h with
 | int=>exact .int
 | bool=>exact .bool
 | str=>exact .str
 | nil=>exact .nil
 | mL=>exact .mL
 | dead h=>exact .dead h
 | pl val aA bf dN hL hB hlen hv hr ih=>exact .pl val aA bf dN (fT _ hL).1 ((fT _ hL).2.trans hB) hlen hv ih
theorem br.move {w w':World} {L L':aw} (f:Place→Place) (U:Place→Prop)
  (hU:∀q i c,U q→U (q.sub i c)) (hf:∀q i c,U q→f (q.sub i c)=(f q).sub i c)
  (fT:r8 w w' L L')
  (c6:∀B q o,U q→L B=some (.row q o)→L' B=some (.row (f q) o)∧w'.heap[B]? = w.heap[B]?)
  {pl:Place} {x:D} {v:Value} (h:br w L pl x v):U pl→br w' L' (f pl) x v:=by
 induction h with
 | plain h=>exact fun _=>.plain (h.mono fT)
 | jl=>exact fun _=>.jl
 | @own pl sz rows B o cap cur e fz val bf hL hB cU hlen dN dI hv hr ec ih=>
  intro hu;obtain ⟨h1,h2⟩:=c6 B pl o hu hL;refine .own val bf h1 (h2.trans hB) cU hlen dN dI hv ?_ ec;intro i c x hx;have:=ih i c x hx (hU _ _ _ hu);rwa [hf _ _ _ hu] at this
theorem Av:∀r:List (List D),(aV r).length=r.length
 | []=>rfl
 | _::t=>by simp [aV,Av t]
theorem acb:∀r:List D,Dl r=r.map kX
 | []=>rfl
 | _::t=>by simp [Dl,acb t]
theorem Dm:∀r:List (List D),aV r=r.map (·.map kX)
 | []=>rfl
 | _::t=>by simp [aV,Dm t,acb]
theorem Br (rows:List (List D)) (i c:Nat):cellOf (aV rows) i c=(cellOf rows i c).map kX:=by
 simp only [cellOf,Dm,bQ];cases rows[i]? with
 | none=>rfl
 | some r=>simp
theorem fL.aoF {w:World} {L:aw} {x:D} {v:Value} (h:fL w L x v):kX x=x:=by
 cases h<;>simp [kX]
theorem br.freeze {w w':World} {L L':aw} (U:Place→Prop)
  (hU:∀q i c,U q→U (q.sub i c))
  (fT:r8 w w' L L')
  (c6:∀B q o,U q→L B=some (.row q o)→L' B=some .bh∧w'.heap[B]? = w.heap[B]?)
  {pl:Place} {x:D} {v:Value} (h:br w L pl x v):U pl→fL w' L' (kX x) v:=by
 induction h with
 | plain h=>intro _;rw [h.aoF];exact h.mono fT
 | jl=>intro _;simp only [kX,aV];exact .mL
 | @own pl sz rows B o cap cur e fz val bf hL hB cU hlen dN dI hv hr ec ih=>
  intro hu;obtain ⟨h1,h2⟩:=c6 B pl o hu hL;simp only [kX];rw [←Av rows];cases vM:rows with
  | nil=>simp only [aV,jE];exact .mL
  | cons r0 t0=>
   rw [←vM];refine .pl val (by rw [vM];simp [aV]) bf (by rw [Av];exact dN) h1 (h2.trans hB) ?_ ?_ ?_
   ·intro r eV;rw [Dm] at eV;obtain ⟨r1,h3,rfl⟩:=iD.1 eV;simpa using hlen r1 h3
   ·intro i c x hx;rw [Br] at hx;cases hc:cellOf rows i c with
    | none=>simp [hc] at hx
    | some y=>exact hv i c y hc
   ·intro i c x hx;rw [Br] at hx;cases hc:cellOf rows i c with
    | none=>simp [hc] at hx
    | some y=>
     simp only [hc,ff,aj] at hx;subst hx;exact ih i c y hc (hU _ _ _ hu)
def Place.app (pl:Place) (p:List (Nat×Nat)):Place:={ pl with p:=pl.p++p }
theorem Place.Bf (pl:Place):pl.app []=pl:=by simp [Place.app]
theorem Place.qV (pl:Place) (i c:Nat) (p:List (Nat×Nat)):pl.app ((i,c)::p)=(pl.sub i c).app p:=by simp [Place.app,Place.sub]
theorem Place.Eh (pl:Place) (i c:Nat) (p:List (Nat×Nat)):pl.app (p++[(i,c)])=(pl.app p).sub i c:=by simp [Place.app,Place.sub]
theorem Da {sz:Nat} {rows:List (List D)} {i c:Nat} {p:List (Nat×Nat)}:ew (.sl .own sz rows) ((i,c)::p)=(cellOf rows i c).bind (ew · p):=by
 simp [ew,cellOf]
theorem An {x y:D} {i c:Nat} {p:List (Nat×Nat)} (h:ew x ((i,c)::p)=some y):∃sz rows z,x = .sl .own sz rows∧cellOf rows i c=some z∧ew z p=some y:=by
 cases x with
 | sl t sz rows=>
  cases t with
  | own=>
   rw [Da] at h;cases hz:cellOf rows i c with
   | none=>simp [hz] at h
   | some z=>exact ⟨sz,rows,z,rfl,hz,by simpa [hz] using h⟩
  | im b=>simp [ew] at h
 | int=>simp [ew] at h
 | bool=>simp [ew] at h
 | str=>simp [ew] at h
 | dead=>simp [ew] at h
theorem br.nav {w:World} {L:aw}:∀(p:List (Nat×Nat)) {pl:Place} {x y:D} {v:Value},br w L pl x v→ew x p=some y→
  ∃u,br w L (pl.app p) y u
 | [],pl,x,y,v,h,hn=>by
  simp only [ew,aj] at hn;subst hn;rw [Place.Bf];exact ⟨v,h⟩
 | (i,c)::p,pl,x,y,v,h,hn=>by
  obtain ⟨sz,rows,z,rfl,hz,hy⟩:=An hn;rw [Place.qV];cases h with
  | plain h=>cases h
  | jl=>simp [cellOf] at hz
  | own val bf hL hB cU hlen dN dI hv hr ec=>exact br.nav p (hr i c z hz) hy
theorem br.nX {w:World} {L:aw} {pl:Place} {sz:Nat} {rows:List (List D)} {v:Value} (h:br w L pl (.sl .own sz rows) v) :
  (rows=[]∧∃a,v = .slice (some a) 0 0)∨
  ∃B o cap cur e fz,∃val:Nat→Nat→Value,v = .slice (some ⟨B,o,none⟩) rows.length cap∧0 < sz∧L B=some (.row pl o)∧
   w.heap[B]? = some (.cells cur e fz)∧jD cur.size fz∧(∀r∈rows,r.length=sz)∧rows.length≤cap∧o+cap * sz≤cur.size∧
   (∀i c x,cellOf rows i c=some x→cur[o+i * sz+c]? = some (val i c))∧
   (∀i c x,cellOf rows i c=some x→br w L (pl.sub i c) x (val i c))∧tT rows e:=by
 cases h with
 | plain h=>cases h
 | jl=>exact .inl ⟨rfl,_,rfl⟩
 | own val bf hL hB cU hlen dN dI hv hr ec=>exact .inr ⟨_,_,_,_,_,_,val,rfl,bf,hL,hB,cU,hlen,dN,dI,hv,hr,ec⟩
theorem Ew {rows:List (List D)} {i c:Nat} {dJ:D} (h:cellOf rows i c=some dJ) (z:D) (i' c':Nat) :
  cellOf (rows.set i ((rows.getD i []).set c z)) i' c'=if i'=i∧c'=c then some z else cellOf rows i' c':=by
 obtain ⟨r,hr,hc⟩:=kK.1 h;have hi:i < rows.length:=(cA.1 hr).1;have aS:c < r.length:=(cA.1 hc).1;have hg:rows.getD i []=r:=by rw [kD,hr];rfl
 rw [hg];unfold cellOf;rw [Nc];by_cases h1:i=i'
 ·subst h1;simp only [bW,hi,ll,Option.bind_some,Nc,hr];by_cases h2:c=c'
  ·subst h2;simp [aS]
  ·simp [h2,Ne.symm h2]
 ·simp [h1,Ne.symm h1]
theorem TO {rows:List (List D)} {sz i c:Nat} {z:D} (hlen:∀r∈rows,r.length=sz):∀r∈rows.set i ((rows.getD i []).set c z),r.length=sz:=by
 intro r hr;by_cases hi:i < rows.length
 ·rcases Va hr with h | h
  ·exact hlen r h
  ·subst h;have hg:rows.getD i []=rows[i]:=by rw [kD,ke hi];rfl
   rw [yO,hg];exact hlen _ (bM hi)
 ·rw [List.set_eq_of_length_le (by omega)] at hr;exact hlen r hr
theorem vY {rows:List (List D)}:lZ rows=false↔rows≠[]∧∀r∈rows,tw r=true:=by
 cases rows with
 | nil=>simp [lZ]
 | cons r t=>simp [lZ]
theorem tT.set {rows:List (List D)} {e i c:Nat} {dJ z:D} (h:tT rows e) (hc:cellOf rows i c=some dJ) (hz:AQ z dJ=true):tT (rows.set i ((rows.getD i []).set c z)) e:=by
 intro hn;obtain ⟨r,hr,rf⟩:=kK.1 hc;have hi:i < rows.length:=(cA.1 hr).1;have hn:lZ (rows.set i ((rows.getD i []).set c z))=false:=hn.resolve_right fun e=>by
  have h3:=fU List.length e;rw [yO,jE] at h3;omega
 obtain ⟨h1,h2⟩:=vY.1 hn;have hg:rows.getD i []=r:=by rw [kD,hr];rfl
 refine h (.inl (vY.2 ⟨fun e=>by rw [e] at hi;simp at hi,fun q hq=>?_⟩));obtain ⟨k,hk⟩:=uU hq;by_cases qt:i=k
 ·subst qt;rw [hr] at hk;simp only [aj] at hk;subst hk;have:=h2 (r.set c z) (by rw [hg];exact fp (by rw [yM hi]));cases r with
  | nil=>simp at rf
  | cons d t=>
   cases t with
   | nil=>
    cases c with
    | zero=>
     simp at rf;subst rf;simp only [List.set,tw] at this ⊢;simp only [AQ,this,UU,UT] at hz;exact hz
    | succ c=>simp at rf
   | cons d2 t=>cases c with
    | zero=>simp [tw] at this
    | succ c=>cases c<;>simp [tw] at this
 ·exact h2 q (fp (by rw [qS qt];exact hk))
theorem pD (w:World) (a:Addr) (u:Value) (B:Nat) (h:B≠a.block):(w.setCell a u).heap[B]? = w.heap[B]?:=by
 simp only [World.setCell,A0];rw [aB (fun e=>h e.symm)]
theorem xr (w:World) (B j:Nat) (u:Value) {cur:Array Value} {e:TypeId} {fz:Nat×Nat} (h:w.heap[B]? = some (.cells cur e fz)) :
  (w.setCell ⟨B,j,none⟩ u).heap[B]? = some (.cells (cur.setIfInBounds j u) e fz):=by
 simp [World.setCell,A0,h]
theorem akh {sz i c i' c':Nat} (hc:c < sz) (kO:c' < sz) (h:¬ (i'=i∧c'=c)):i * sz+c≠i' * sz+c':=by
 intro e;apply h;have h1:(i * sz+c) / sz=i:=by rw [HN,Nat.mul_add_div (by omega)];rw [Nat.div_eq_of_lt hc];rfl
 have h2:(i' * sz+c') / sz=i':=by rw [HN,Nat.mul_add_div (by omega)];rw [Nat.div_eq_of_lt kO];rfl
 have:i=i':=by rw [←h1,←h2,e]
 subst this;exact ⟨rfl,by omega⟩
theorem ox {rows:List (List D)} {sz i c:Nat} {x:D} (hlen:∀r∈rows,r.length=sz) (h:cellOf rows i c=some x):i < rows.length∧c < sz:=by
 obtain ⟨r,hr,hc⟩:=kK.1 h;obtain ⟨hi,rfl⟩:=cA.1 hr;refine ⟨hi,?_⟩;rw [←hlen _ (bM hi)];exact (cA.1 hc).1
def bE (t q:Place):Prop:=∃r,q=t.app r
theorem bE.refl (t:Place):bE t t:=⟨[],(Place.Bf t).symm⟩
theorem bE.sub {t q:Place} (h:bE t q) (i c:Nat):bE t (q.sub i c):=by
 obtain ⟨r,rfl⟩:=h;exact ⟨r++[(i,c)],(Place.Eh t i c r).symm⟩
theorem Place.afb {t:Place} {r r':List (Nat×Nat)} (h:t.app r=t.app r'):r=r':=by
 simpa [Place.app] using h
theorem bE.Sl {t:Place} {i c:Nat}:¬ bE (t.sub i c) t:=by
 rintro ⟨r,h⟩;have:t.p=t.p++[(i,c)]++r:=fU Place.p h;have:=fU List.length this;simp at this
theorem bE.apart {t q:Place} {i c i' c':Nat} (h:bE (t.sub i c) q) (h':bE (t.sub i' c') q):i=i'∧c=c':=by
 obtain ⟨r,rfl⟩:=h;obtain ⟨r',h'⟩:=h';have:t.p++[(i,c)]++r=t.p++[(i',c')]++r':=fU Place.p h';simp only [ej,List.append_cancel_left_eq,List.singleton_append,qR,fK] at this;exact this.1
theorem He {sz:Nat} {rows:List (List D)} {i c:Nat} {p:List (Nat×Nat)} {y z:D} (h:cellOf rows i c=some z) :
  eF (.sl .own sz rows) ((i,c)::p) y = .sl .own sz (rows.set i ((rows.getD i []).set c (eF z p y))):=by
 obtain ⟨r,hr,hc⟩:=kK.1 h;have hg:rows.getD i []=r:=by rw [kD,hr];rfl
 have jV:r.getD c (.bool false)=z:=by rw [kD,hc];rfl
 rw [eF,hg,jV]
theorem br.set {w:World} {L L':aw} {B o sz i c:Nat} {rows:List (List D)} {dJ y:D} {u:Value} (hc:cellOf rows i c=some dJ) :
  ∀(p:List (Nat×Nat)) {pl:Place} {x:D} {v:Value},br w L pl x v→ew x p=some (.sl .own sz rows)→L B=some (.row (pl.app p) o)→
   (∀B' q o',L B'=some (.row q o')→q=pl.app p→B'=B)→
   r8 w (w.setCell ⟨B,o+i * sz+c,none⟩ u) L L'→
   (∀B' q o',bE pl q→¬ bE ((pl.app p).sub i c) q→L B'=some (.row q o')→L' B'=some (.row q o'))→
   br (w.setCell ⟨B,o+i * sz+c,none⟩ u) L' ((pl.app p).sub i c) y u→AQ y dJ=true→
   br (w.setCell ⟨B,o+i * sz+c,none⟩ u) L' pl (eF x (p++[(i,c)]) y) v
 | [],pl,x,v,h,hn,hB,re,fT,c6,hy,bA=>by
  simp only [ew,aj] at hn;subst hn;rw [Place.Bf] at *;rcases h.nX with ⟨rfl,_⟩ | ⟨B0,o0,cap,cur,e,fz,val,rfl,bf,hL,hH,cU,hlen,dN,dI,hv,hr,ec⟩
  ·simp [cellOf] at hc
  obtain rfl:=re B0 pl o0 hL rfl;obtain rfl:o0=o:=by rw [hL] at hB;simpa using hB
  simp only [uV];rw [He hc,eF];obtain ⟨hi,eE⟩:=ox hlen hc;have ajL:=TO (i:=i) (c:=c) (z:=y) hlen;have af:i * sz+c < cap * sz:=by
   have:(i+1) * sz≤cap * sz:=p6 _ (by omega);rw [lN] at this;omega
  have gC:(rows.set i ((rows.getD i []).set c y)).length=rows.length:=yO ..;rw [←gC];refine .own (fun a b=>if a=i∧b=c then u else val a b) bf (c6 _ _ _ (bE.refl _) bE.Sl hL) (xr w B0 _ u hH) (by simpa using cU) ajL (by rw [gC];exact dN) (by simpa using dI) ?_ ?_ (ec.set hc bA)
  ·intro a b x hx;rw [Ew hc] at hx;by_cases jU:a=i∧b=c
   ·obtain ⟨rfl,rfl⟩:=jU;simp only [and_self,bW];rw [wR];simp only [bW];rw [aJ (by omega)]
   ·simp only [jU,dF] at hx ⊢;obtain ⟨ha,hb⟩:=ox hlen hx;rw [wR,aB]
    ·exact hv a b x hx
    ·have:=akh eE hb jU;omega
  ·intro a b x hx;rw [Ew hc] at hx;by_cases jU:a=i∧b=c
   ·obtain ⟨rfl,rfl⟩:=jU;simp only [and_self,bW,aj] at hx ⊢;subst hx;exact hy
   ·simp only [jU,dF] at hx ⊢;refine br.move id (bE (pl.sub a b)) (fun q i c h=>h.sub i c) (fun _ _ _ _=>rfl) fT ?_ (hr a b x hx) (bE.refl _);intro B' q o' hq fh;have aA:¬ bE (pl.sub i c) q:=fun h=>jU ⟨(bE.apart hq h).1,(bE.apart hq h).2⟩
    have rh:bE pl q:=by obtain ⟨r,rfl⟩:=hq;exact ⟨(a,b)::r,(Place.qV pl a b r).symm⟩
    refine ⟨c6 _ _ _ rh aA fh,pD _ _ _ _ ?_⟩;rintro rfl;rw [hL] at fh;simp only [aj,bS.row.injEq] at fh;rw [←fh.1] at hq;exact bE.Sl hq
 | (a,b)::p,pl,x,v,h,hn,hB,re,fT,c6,hy,bA=>by
  obtain ⟨pS,qM,z,rfl,hz,zY⟩:=An hn;rcases h.nX with ⟨rfl,_⟩ | ⟨B0,o0,cap,cur,e,fz,val,rfl,bf,hL,hH,cU,hlen,dN,dI,hv,hr,ec⟩
  ·simp [cellOf] at hz
  have ajS:B0≠B:=by
   rintro rfl;rw [hL] at hB;simp only [aj,bS.row.injEq] at hB;have:=fU (fun q:Place=>q.p.length) hB.1;simp [Place.app] at this
  have fG:=Ew hz (eF z (p++[(i,c)]) y);simp only [qQ];rw [He hz];have gC:(qM.set a ((qM.getD a []).set b (eF z (p++[(i,c)]) y))).length=qM.length:=yO ..;have QY:∀q,bE (pl.sub a b) q→bE pl q:=by rintro q ⟨r,rfl⟩;exact ⟨(a,b)::r,(Place.qV pl a b r).symm⟩
  have ht:bE (pl.sub a b) ((pl.app ((a,b)::p)).sub i c):=by rw [Place.qV];exact ⟨p++[(i,c)],(Place.Eh _ i c p).symm⟩
  rw [←gC]
  refine .own val bf (c6 _ _ _ (bE.refl _) ?_ hL) ((pD _ _ _ _ ajS).trans hH) cU (TO hlen) (by rw [gC]; exact dN) dI ?_ ?_ (ec.set hz (by
    obtain ⟨_, _, _, h7, _⟩ : ∃ (t : Tag) (s : Nat) (R : List (List D)), eF z (p ++ [(i, c)]) y = .sl t s R ∧ True := by
      cases p with
      | nil =>
        simp only [ew, aj] at zY
        subst zY
        exact ⟨_, _, _, rfl, trivial⟩
      | cons x0 p0 =>
        obtain ⟨s1, R1, z1, rfl, _, _⟩ := An zY
        exact ⟨_, _, _, rfl, trivial⟩
    rw [h7]; rfl))
  ·rintro ⟨r,h1⟩;obtain ⟨r2,h2⟩:=ht;have h3:=fU (fun q:Place=>q.p.length) h1;have h4:=fU (fun q:Place=>q.p.length) h2;simp [Place.app,Place.sub] at h3 h4
  ·intro a' b' x hx;rw [fG] at hx;by_cases jU:a'=a∧b'=b
   ·obtain ⟨rfl,rfl⟩:=jU;exact hv _ _ z hz
   ·simp only [jU,dF] at hx;exact hv _ _ x hx
  ·intro a' b' x hx;rw [fG] at hx;by_cases jU:a'=a∧b'=b
   ·obtain ⟨rfl,rfl⟩:=jU;simp only [and_self,bW,aj] at hx;subst hx;rw [Place.qV] at hB re c6 hy;exact br.set hc p (hr _ _ z hz) zY hB re fT (fun B' q o' h1 h2 h3=>c6 B' q o' (QY q h1) h2 h3) hy bA
   ·simp only [jU,dF] at hx;refine br.move id (bE (pl.sub a' b')) (fun q i c h=>h.sub i c) (fun _ _ _ _=>rfl) fT ?_ (hr a' b' x hx) (bE.refl _);intro B' q o' hq fh;have aA:¬ bE (pl.sub a b) q:=fun h=>jU ⟨(bE.apart hq h).1,(bE.apart hq h).2⟩
    have qv:¬ bE ((pl.app ((a,b)::p)).sub i c) q:=by
     rintro ⟨r,rfl⟩;apply aA;obtain ⟨r2,h2⟩:=ht;rw [h2];exact ⟨r2++r,by simp [Place.app]⟩
    have rh:bE pl q:=by obtain ⟨r,rfl⟩:=hq;exact ⟨(a',b')::r,(Place.qV pl a' b' r).symm⟩
    refine ⟨c6 _ _ _ rh qv fh,pD _ _ _ _ ?_⟩;rintro rfl;have:=fh;rw [hB] at this;simp only [aj,bS.row.injEq] at this;apply aA;rw [←this.1,Place.qV];exact ⟨p,rfl⟩
theorem br.subst {w:World} {L L':aw} {z y:D} :
  ∀(p:List (Nat×Nat)) {pl:Place} {x:D} {v:Value},br w L pl x v→ew x p=some z→
   r8 w w L L'→
   (∀B' q o',bE pl q→¬ bE (pl.app p) q→L B'=some (.row q o')→L' B'=some (.row q o'))→
   (∀u,br w L (pl.app p) z u→br w L' (pl.app p) y u)→xO y=false→
   br w L' pl (eF x p y) v
 | [],pl,x,v,h,hn,fT,c6,hy,bA=>by
  simp only [ew,aj] at hn;subst hn;rw [Place.Bf] at hy;rw [eF];exact hy v h
 | (a,b)::p,pl,x,v,h,hn,fT,c6,hy,bA=>by
  obtain ⟨pS,qM,z0,rfl,hz,zY⟩:=An hn;rcases h.nX with ⟨rfl,_⟩ | ⟨B0,o0,cap,cur,e,fz,val,rfl,bf,hL,hH,cU,hlen,dN,dI,hv,hr,ec⟩
  ·simp [cellOf] at hz
  have fG:=Ew hz (eF z0 p y);rw [He hz];have gC:(qM.set a ((qM.getD a []).set b (eF z0 p y))).length=qM.length:=yO ..;have QY:∀q,bE (pl.sub a b) q→bE pl q:=by rintro q ⟨r,rfl⟩;exact ⟨(a,b)::r,(Place.qV pl a b r).symm⟩
  have ht:bE (pl.sub a b) (pl.app ((a,b)::p)):=by rw [Place.qV];exact ⟨p,rfl⟩
  rw [←gC]
  refine .own val bf (c6 _ _ _ (bE.refl _) ?_ hL) hH cU (TO hlen) (by rw [gC]; exact dN) dI ?_ ?_ (ec.set hz (by
    have : xO (eF z0 p y) = false := by
      cases p with
      | nil => exact bA
      | cons x0 p0 => obtain ⟨s1, R1, z1, rfl, _, _⟩ := An zY; rfl
    simp [AQ, this]))
  ·rintro ⟨r,h1⟩;have h3:=fU (fun q:Place=>q.p.length) h1;simp [Place.app,Place.sub] at h3
  ·intro a' b' x hx;rw [fG] at hx;by_cases jU:a'=a∧b'=b
   ·obtain ⟨rfl,rfl⟩:=jU;exact hv _ _ z0 hz
   ·simp only [jU,dF] at hx;exact hv _ _ x hx
  ·intro a' b' x hx;rw [fG] at hx;by_cases jU:a'=a∧b'=b
   ·obtain ⟨rfl,rfl⟩:=jU;simp only [and_self,bW,aj] at hx;subst hx;rw [Place.qV] at c6 hy;exact br.subst p (hr _ _ z0 hz) zY fT (fun B' q o' h1 h2 h3=>c6 B' q o' (QY q h1) h2 h3) hy bA
   ·simp only [jU,dF] at hx;refine br.move id (bE (pl.sub a' b')) (fun q i c h=>h.sub i c) (fun _ _ _ _=>rfl) fT ?_ (hr a' b' x hx) (bE.refl _);intro B' q o' hq fh;have aA:¬ bE (pl.sub a b) q:=fun h=>jU ⟨(bE.apart hq h).1,(bE.apart hq h).2⟩
    have qv:¬ bE (pl.app ((a,b)::p)) q:=by
     rintro ⟨r,rfl⟩;apply aA;obtain ⟨r2,h2⟩:=ht;rw [h2];exact ⟨r2++r,by simp [Place.app]⟩
    have rh:bE pl q:=by obtain ⟨r,rfl⟩:=hq;exact ⟨(a',b')::r,(Place.qV pl a' b' r).symm⟩
    exact ⟨c6 _ _ _ rh qv fh,rfl⟩
end
section
def A' (w:World) (L:aw) (pl:Place) (sz off len:Nat) (v:Value):Prop:=
 (len=0∧∃a,v = .slice (some a) 0 0)∨
 ∃B o cap cur e fz,v = .slice (some ⟨B,o+off * sz,none⟩) len cap∧0 < sz∧L B=some (.row pl o)∧w.heap[B]? = some (.cells cur e fz)∧
  jD cur.size fz∧len≤cap∧o+off * sz+cap * sz≤cur.size∧(off=0→len=0→e=5)
def p8 (w:World) (L:aw) (pl:Place) (sz:Nat) (rows:List (List D)) (t:Place) (v:Value):Prop:=
 (rows=[]∧∃a,v = .slice (some a) 0 0)∨
 ∃B o cap cur e fz n0,∃val:Nat→Nat→Value,v = .slice (some ⟨B,o,none⟩) rows.length cap∧0 < sz∧(L B=some (.row pl o)∨L B=some (.row t o))∧
  w.heap[B]? = some (.cells cur e fz)∧jD cur.size fz∧(∀r∈rows,r.length=sz)∧rows.length≤cap∧o+cap * sz≤cur.size∧
  (∀i c x,cellOf rows i c=some x→cur[o+i * sz+c]? = some (val i c))∧
  (∀i c x,cellOf rows i c=some x→br w L ((if i < n0 then pl else t).sub i c) x (val i c))∧tT rows e
mutual
def C.clean:C→Bool
 | .d (.sl .own _ _)=>false
 | .c8 .. => false
 | .bt _=>false
 | .mp _=>false
 | .fn _ a b=>jo a&&jo b
 | _=>true
def jo:List C→Bool
 | []=>true
 | c::t=>c.clean&&jo t
end
mutual
def V.clean:V→Bool
 | .one c=>c.clean
 | .agg cs=>jo cs
 | .aq vs=>iF vs
def iF:List V→Bool
 | []=>true
 | v::t=>v.clean&&iF t
end
theorem ko:∀{l:List C} {i:Nat} {c:C},jo l=true→l[i]? = some c→c.clean=true
 | [],_,_,_,h=>by simp at h
 | x::t,0,c,h,hc=>by simp only [jo,bK] at h;simp at hc;subst hc;exact h.1
 | x::t,i+1,c,h,hc=>by simp only [jo,bK] at h;exact ko h.2 (by simpa using hc)
theorem Ey:∀{l:List V} {i:Nat} {c:V},iF l=true→l[i]? = some c→c.clean=true
 | [],_,_,_,h=>by simp at h
 | x::t,0,c,h,hc=>by simp only [iF,bK] at h;simp at hc;subst hc;exact h.1
 | x::t,i+1,c,h,hc=>by simp only [iF,bK] at h;exact Ey h.2 (by simpa using hc)
def HR (x:D) (es:Array MapEntry):Prop:=
 ∃(b:Bool) (rows:List (List D)) (l:List (List UInt8×Bool)),x = .sl (.im b) 2 rows∧rows=l.map (fun p=>[.str p.1,.bool p.2])∧es.toList.map (fun e=>(e.key,e.val))=l.map (fun p=>(Value.string ⟨p.1.toArray⟩,Value.bool p.2))
def Key.aT:Key→Bool
 | .s _=>true
 | .b _ _=>true
 | _=>false
def VB (len:Nat) (v:Value):Prop:=∃b c,v = .slice b len c∧len≤c∧b.isSome=true
section
variable (nm:FuncId→Option Nat) (w:World) (L:aw) (γ:Key→Nat)
inductive aF:Key→Nat→C→Value→Prop where
 | d {k j x v} (h:br w L ⟨k,j,[]⟩ x v):aF k j (.d x) v
 | ptr {k j r g c v} (hv:∃ad,v = .pointer (some ad)) (hg:g≤γ (.r r))
  (h:g=γ (.r r)→∃B o,L B=some (.box r o)∧v = .pointer (some ⟨B,o+c,none⟩)):aF k j (.ptr r g c) v
 | eD {k j pl g sz i c v} (hv:∃ad,v = .pointer (some ad)) (hh:pl.k.aT=true) (hg:g≤γ pl.k)
  (h:g=γ pl.k→∃B o,L B=some (.row pl o)∧v = .pointer (some ⟨B,o+i * sz+c,none⟩)):aF k j (.eD pl g sz i c) v
 | pp {k j cells B o cur e fz} (hL:L B=some .bh) (hB:w.heap[B]? = some (.cells cur e fz))
  (h:∀q x,cells[q]? = some x→∃u,cur[o+q]? = some u∧fL w L x u):aF k j (.pp cells) (.pointer (some ⟨B,o,none⟩))
 | view {k j pl g sz off len v} (hv:VB len v) (hh:pl.k.aT=true) (hg:g≤γ pl.k) (h:g=γ pl.k→A' w L pl sz off len v):aF k j (.view pl g sz off len) v
 | c8 {k j pl g a sz rows v} (hv:v.oneCell'=true) (hh:pl.k.aT=true) (hg:g≤γ pl.k) (ha:a≤γ (.a pl.k))
  (h:g=γ pl.k→a=γ (.a pl.k)→p8 w L pl sz rows ⟨k,j,[]⟩ v):aF k j (.c8 pl g a sz rows) v
 | fn {k j f first cap cH} {fs cs:Array Value} (jI:f < kM) (hf:nm cH=some f) (h1:first.length=fs.size) (h2:cap.length=cs.size) (aS:jo first=true∧jo cap=true)
  (h3:∀(i:Nat) x u,first[i]? = some x→fs[i]? = some u→aF k j x u)
  (h4:∀(i:Nat) x u,cap[i]? = some x→cs[i]? = some u→aF k j x u):aF k j (.fn f first cap) (.func (.func cH) fs cs)
 | fns {k j f l v B o cap cur e fz} (val:Nat→Value) (hf:(f=kM∧v = .slice (some ⟨B,o,none⟩) l.length cap∧l.length≤cap)∨(f=kM+1∧v = .pointer (some ⟨B,o,none⟩)))
  (hL:L B=some .bh) (hB:w.heap[B]? = some (.cells cur e fz)) (aS:jo l=true) (hv:∀i,i < l.length→cur[o+i]? = some (val i))
  (h:∀(i:Nat) x,l[i]? = some x→aF k j x (val i)):aF k j (.fn f [] l) v
 | cE {k j}:aF k j .cE (.pointer none)
 | eX {k j}:aF k j .eX .nilFunc
 | fR {k j}:aF k j .fR .nilIface
 | fj {k j t u}:aF k j .fj (.iface t u)
 | bt {k j t v} (hk:∃r c,k = .b r c) (hv:v.oneCell'=true):aF k j (.bt t) v
 | mp {k j x v} (h:∃B es clock,v = .map (some B)∧L B=some (.row ⟨k,j,[]⟩ 0)∧w.heap[B]? = some (.map es clock)∧HR x es):aF k j (.mp x) v
 | gj {k j i g v} (hv:∃B,v = .map (some B)) (hg:g≤γ (.b (.g i) 0)) (h:g=γ (.b (.g i) 0)→∃B,L B=some (.row ⟨.b (.g i) 0,0,[]⟩ 0)∧v = .map (some B)):aF k j (.gj i g) v
 | dead {k j v}:aF k j .dead v
inductive bD:Key→V→Value→Prop where
 | one {k c v} (h:aF nm w L γ k 0 c v):bD k (.one c) v
 | agg {k cs} {vs:Array Value} (hl:cs.length=vs.size) (h:∀(j:Nat) c u,cs[j]? = some c→vs[j]? = some u→aF nm w L γ k j c u):bD k (.agg cs) (.agg vs)
 | aq {k vs} {us:Array Value} (hl:vs.length=us.size) (aS:iF vs=true) (h:∀(i:Nat) x u,vs[i]? = some x→us[i]? = some u→bD k x u):bD k (.aq vs) (.tuple us)
end
theorem aF.Pp {nm:FuncId→Option Nat} {w:World} {L:aw} {γ:Key→Nat} {k:Key} {j tag:Nat} {l:List C} {v:Value} (ht:kM≤tag) (h:aF nm w L γ k j (.fn tag [] l) v) :
  ∃B o cap cur e fz,∃val:Nat→Value,((tag=kM∧v = .slice (some ⟨B,o,none⟩) l.length cap∧l.length≤cap)∨(tag=kM+1∧v = .pointer (some ⟨B,o,none⟩)))∧
   L B=some .bh∧w.heap[B]? = some (.cells cur e fz)∧jo l=true∧(∀i,i < l.length→cur[o+i]? = some (val i))∧∀(i:Nat) x,l[i]? = some x→aF nm w L γ k j x (val i):=by
 cases h with
 | fn jI=>exact absurd jI (by omega)
 | fns val hf hL hB aS hv h=>exact ⟨_,_,_,_,_,_,val,hf,hL,hB,aS,hv,h⟩
theorem aF.wm {nm:FuncId→Option Nat} {w:World} {L:aw} {γ:Key→Nat} {k:Key} {j:Nat} {c:C} {v:Value} (h:aF nm w L γ k j c v) (hc:c≠.dead):v.oneCell'=true:=by
 cases h with
 | d h=>exact h.wm
 | ptr hv=>obtain ⟨ad,rfl⟩:=hv;rfl
 | eD hv=>obtain ⟨ad,rfl⟩:=hv;rfl
 | pp=>rfl
 | view hv=>obtain ⟨b,c,rfl,_⟩:=hv;rfl
 | c8 hv=>exact hv
 | fn=>rfl
 | fns val hf=>rcases hf with ⟨_,rfl,_⟩ | ⟨_,rfl⟩<;>rfl
 | cE=>rfl
 | eX=>rfl
 | fR=>rfl
 | fj=>rfl
 | bt hk hv=>exact hv
 | mp h=>obtain ⟨B,es,clock,rfl,_⟩:=h;rfl
 | gj hv=>obtain ⟨B,rfl⟩:=hv;rfl
 | dead=>exact absurd rfl hc
structure Step (w w':World) (L L':aw) (γ γ':Key→Nat):Prop where
 bh:r8 w w' L L'
 dT:∀k,γ k≤γ' k
 view:∀B q o,q.k.aT=true→γ' q.k=γ q.k→L B=some (.row q o)→L' B=some (.row q o)∧
  ∀cur e fz,w.heap[B]? = some (.cells cur e fz)→∃dU:Array Value,w'.heap[B]? = some (.cells dU e fz)∧dU.size=cur.size
 app:∀B q o,q.k.aT=true→γ' q.k=γ q.k→γ' (.a q.k)=γ (.a q.k)→L B=some (.row q o)→w'.heap[B]? = w.heap[B]?
 box:∀B r o,γ' (.r r)=γ (.r r)→L B=some (.box r o)→L' B=some (.box r o)
theorem A'.step {w w':World} {L L':aw} {γ γ':Key→Nat} (hs:Step w w' L L' γ γ') {pl:Place} {sz off len:Nat} {v:Value}
  (hh:pl.k.aT=true) (hk:γ' pl.k=γ pl.k) (h:A' w L pl sz off len v):A' w' L' pl sz off len v:=by
 rcases h with h | ⟨B,o,cap,cur,e,fz,rfl,bf,hL,hB,cU,hc,hr,h8⟩
 ·exact .inl h
 ·obtain ⟨h1,h2⟩:=hs.view B pl o hh hk hL;obtain ⟨dU,h3,h4⟩:=h2 _ _ _ hB;exact .inr ⟨B,o,cap,dU,e,fz,rfl,bf,h1,h3,by rw [h4];exact cU,hc,by rw [h4];exact hr,h8⟩
def Place.at (q:Place) (k:Key) (j:Nat):Place:=⟨k,j,q.p⟩
theorem p8.step {w w':World} {L L':aw} {γ γ':Key→Nat} (hs:Step w w' L L' γ γ') {pl:Place} {k k':Key} {j j':Nat} {sz:Nat} {rows:List (List D)} {v:Value}
  (hh:pl.k.aT=true) (hk:γ' pl.k=γ pl.k) (ha:γ' (.a pl.k)=γ (.a pl.k))
  (ht:∀B q o,q.k=k→q.j=j→L B=some (.row q o)→L' B=some (.row (q.at k' j') o)∧w'.heap[B]? = w.heap[B]?)
  (h:p8 w L pl sz rows ⟨k,j,[]⟩ v):p8 w' L' pl sz rows ⟨k',j',[]⟩ v:=by
 rcases h with h | ⟨B,o,cap,cur,e,fz,n0,val,rfl,bf,hL,hB,cU,hlen,hc,hr,hv,hd,ec⟩
 ·exact .inl h
 ·have dy:∀i c x,cellOf rows i c=some x→br w' L' ((if i < n0 then pl else ⟨k',j',[]⟩).sub i c) x (val i c):=by
   intro i c x hx;have h0:=hd i c x hx;by_cases hi:i < n0
   ·rw [aJ hi] at h0 ⊢;refine br.move id (fun q=>q.k=pl.k) (fun _ _ _ h=>h) (fun _ _ _ _=>rfl) hs.bh ?_ h0 rfl;intro B q o hq hL;have vL:γ' q.k=γ q.k:=by rw [hq];exact hk
    have JB:γ' (.a q.k)=γ (.a q.k):=by rw [hq];exact ha
    have ZD:q.k.aT=true:=by rw [hq];exact hh
    exact ⟨(hs.view B q o ZD vL hL).1,hs.app B q o ZD vL JB hL⟩
   ·rw [aB hi] at h0 ⊢;exact br.move (fun q=>q.at k' j') (fun q=>q.k=k∧q.j=j) (fun _ _ _ h=>h) (fun _ _ _ _=>rfl) hs.bh (fun B q o hq hL=>ht B q o hq.1 hq.2 hL) h0 ⟨rfl,rfl⟩
  rcases hL with hL | hL
  ·exact .inr ⟨B,o,cap,cur,e,fz,n0,val,rfl,bf,.inl (hs.view B pl o hh hk hL).1,(hs.app B pl o hh hk ha hL).trans hB,cU,hlen,hc,hr,hv,dy,ec⟩
  ·have:=ht B _ o rfl rfl hL;exact .inr ⟨B,o,cap,cur,e,fz,n0,val,rfl,bf,.inr this.1,this.2.trans hB,cU,hlen,hc,hr,hv,dy,ec⟩
theorem aF.step {nm:FuncId→Option Nat} {w w':World} {L L':aw} {γ γ':Key→Nat} (hs:Step w w' L L' γ γ') {k k':Key} {j j':Nat}
  (kv:∀B q o,q.k=k→q.j=j→L B=some (.row q o)→L' B=some (.row (q.at k' j') o)∧w'.heap[B]? = w.heap[B]?)
  {c:C} {v:Value} (h:aF nm w L γ k j c v) (hkk:(∃r c,k = .b r c)→∃r c,k' = .b r c:=by first | exact fun h=>h | exact fun _=>⟨_,_,rfl⟩ | (rintro ⟨r,c,h⟩;cases h;done)):aF nm w' L' γ' k' j' c v:=by
 induction h with
 | d h=>
  refine .d ?_;exact br.move (fun q=>q.at k' j') (fun q=>q.k=_∧q.j=_) (fun _ _ _ h=>h) (fun _ _ _ _=>rfl) hs.bh (fun B q o hq hL=>kv B q o hq.1 hq.2 hL) h ⟨rfl,rfl⟩
 | @ptr r g c v hv hg h=>
  refine .ptr hv (je hg (hs.dT _)) ?_;intro he;have:γ' (.r r)=γ (.r r):=uW (he▸hg) (hs.dT _);obtain ⟨B,o,h1,h2⟩:=h (he.trans this);exact ⟨B,o,hs.box B r o this h1,h2⟩
 | @eD pl g sz i c v hv hh hg h=>
  refine .eD hv hh (je hg (hs.dT _)) ?_;intro he;have:γ' pl.k=γ pl.k:=uW (he▸hg) (hs.dT _);obtain ⟨B,o,h1,h2⟩:=h (he.trans this);exact ⟨B,o,(hs.view B pl o hh this h1).1,h2⟩
 | pp hL hB h=>
  refine .pp (hs.bh _ hL).1 ((hs.bh _ hL).2.trans hB) ?_;intro q x hx;obtain ⟨u,h1,h2⟩:=h q x hx;exact ⟨u,h1,h2.mono hs.bh⟩
 | @view pl g sz off len v hv hh hg h=>
  refine .view hv hh (je hg (hs.dT _)) ?_;intro he;have:γ' pl.k=γ pl.k:=uW (he▸hg) (hs.dT _);exact (h (he.trans this)).step hs hh this
 | @c8 pl g a sz rows v hv hh hg ha h=>
  refine .c8 hv hh (je hg (hs.dT _)) (je ha (hs.dT _)) ?_;intro he YV;have h1:γ' pl.k=γ pl.k:=uW (he▸hg) (hs.dT _);have h2:γ' (.a pl.k)=γ (.a pl.k):=uW (YV▸ha) (hs.dT _);exact (h (he.trans h1) (YV.trans h2)).step hs hh h1 h2 kv
 | fn jI hf h1 h2 aS h3 h4 sP sQ=>exact .fn jI hf h1 h2 aS sP sQ
 | fns val hf hL hB aS hv h ih=>exact .fns val hf (hs.bh _ hL).1 ((hs.bh _ hL).2.trans hB) aS hv ih
 | cE=>exact .cE
 | eX=>exact .eX
 | fR=>exact .fR
 | fj=>exact .fj
 | bt hk hv=>exact .bt (hkk hk) hv
 | mp h=>
  obtain ⟨B,es,clock,rfl,h1,h2,h3⟩:=h;obtain ⟨g1,g2⟩:=kv B _ 0 rfl rfl h1;exact .mp ⟨B,es,clock,rfl,g1,g2.trans h2,h3⟩
 | @gj i g v hv hg h=>
  refine .gj hv (je hg (hs.dT _)) ?_;intro he;have:γ' (.b (.g i) 0)=γ (.b (.g i) 0):=uW (he▸hg) (hs.dT _);obtain ⟨B,h1,h2⟩:=h (he.trans this);exact ⟨B,(hs.view B _ 0 rfl this h1).1,h2⟩
 | dead=>exact .dead
theorem bD.step {nm:FuncId→Option Nat} {w w':World} {L L':aw} {γ γ':Key→Nat} (hs:Step w w' L L' γ γ') {k k':Key}
  (kv:∀B q o,q.k=k→L B=some (.row q o)→L' B=some (.row (q.at k' q.j) o)∧w'.heap[B]? = w.heap[B]?)
  {x:V} {v:Value} (h:bD nm w L γ k x v) (hkk:(∃r c,k = .b r c)→∃r c,k' = .b r c:=by first | exact fun h=>h | exact fun _=>⟨_,_,rfl⟩ | (rintro ⟨r,c,h⟩;cases h;done)):bD nm w' L' γ' k' x v:=by
 induction h with
 | one h=>exact .one (h.step hs (fun B q o h1 h2 hL=>by have:=kv B q o h1 hL;rwa [h2] at this) hkk)
 | agg hl h=>exact .agg hl (fun j c u hc hu=>(h j c u hc hu).step hs (fun B q o h1 h2 hL=>by have:=kv B q o h1 hL;rwa [h2] at this) hkk)
 | aq hl aS h ih=>exact .aq hl aS ih
theorem aF.any {nm:FuncId→Option Nat} {w:World} {L:aw} {γ:Key→Nat} {k:Key} {j:Nat} {c:C} {v:Value} (h:aF nm w L γ k j c v)
  (hc:c.clean=true) (k':Key) (j':Nat):aF nm w L γ k' j' c v:=by
 induction h with
 | @d x v h=>
  cases h with
  | plain h=>exact .d (.plain h)
  | jl=>simp [C.clean] at hc
  | own=>simp [C.clean] at hc
 | ptr hv hg h=>exact .ptr hv hg h
 | eD hv hh hg h=>exact .eD hv hh hg h
 | pp hL hB h=>exact .pp hL hB h
 | view hv hh hg h=>exact .view hv hh hg h
 | c8=>simp [C.clean] at hc
 | fn jI hf h1 h2 aS h3 h4 sP sQ=>
  exact .fn jI hf h1 h2 aS (fun i x u hx hu=>sP i x u hx hu (ko aS.1 hx)) (fun i x u hx hu=>sQ i x u hx hu (ko aS.2 hx))
 | fns val hf hL hB aS hv h ih=>exact .fns val hf hL hB aS hv (fun i x hx=>ih i x hx (ko aS hx))
 | cE=>exact .cE
 | eX=>exact .eX
 | fR=>exact .fR
 | fj=>exact .fj
 | bt=>simp [C.clean] at hc
 | mp=>simp [C.clean] at hc
 | gj hv hg h=>exact .gj hv hg h
 | dead=>exact .dead
theorem aF.va {nm:FuncId→Option Nat} {w:World} {L:aw} {γ:Key→Nat} {k:Key} {j:Nat} {c:C} {v:Value} (h:aF nm w L γ k j c v)
  (hc:c.own=false):c.clean=true:=by
 cases h with
 | @d x v h=>
  cases x with
  | sl t sz rows=>cases t<;>simp_all [C.own,C.clean]
  | _=>rfl
 | c8=>simp [C.own] at hc
 | bt=>simp [C.own] at hc
 | mp=>simp [C.own] at hc
 | fn jI hf h1 h2 aS h3 h4=>simp [C.clean,aS.1,aS.2]
 | fns val hf hL hB aS hv h=>simp [C.clean,aS,jo]
 | _=>rfl
theorem bD.any {nm:FuncId→Option Nat} {w:World} {L:aw} {γ:Key→Nat} {k:Key} {x:V} {v:Value} (h:bD nm w L γ k x v)
  (hc:x.clean=true) (k':Key):bD nm w L γ k' x v:=by
 induction h with
 | one h=>exact .one (h.any hc _ _)
 | agg hl h=>exact .agg hl (fun j c u h1 h2=>(h j c u h1 h2).any (ko hc h1) _ _)
 | aq hl aS h ih=>exact .aq hl aS (fun i x u h1 h2=>ih i x u h1 h2 (Ey aS h1))
def r7 (w:World) (L:aw):Prop:=∀B l,L B=some l→B < w.heap.size
theorem xq {w w':World} {B:Nat} (h:B < w.heap.size) (he:w'.heap[B]? = w.heap[B]?):B < w'.heap.size:=by
 rw [oj h] at he;exact (lL.1 he).1
def me (L:aw):Prop:=∀B B' pl o o',L B=some (.row pl o)→L B'=some (.row pl o')→B=B'
def D6 (L:aw):Prop:=∀B B' r o o',L B=some (.box r o)→L B'=some (.box r o')→B=B'
def lO (x:C) (B o c:Nat) (e:TypeId) (n:Nat) (v:Value):Prop:=
 match x with
 | .bt t=>o=0∧c=0∧e=t∧n=2∧(v = .pointer none∨v = .pointer (some ⟨B,0,none⟩))
 | _=>True
theorem lO.of {x:C} (h:∀t,x≠.bt t) {B o c:Nat} {e:TypeId} {n:Nat} {v:Value}:lO x B o c e n v:=by
 cases x<;>first | trivial | exact absurd rfl (h _)
def D8 (nm:FuncId→Option Nat) (w:World) (L:aw) (γ:Key→Nat) (r:aI) (c:Nat) (x:C):Prop:=
 match r with
 | .g _=>∃v,aF nm w L γ (.b r c) 0 x v
 | _=>∃B o cur e fz v,L B=some (.box r o)∧w.heap[B]? = some (.cells cur e fz)∧jD cur.size fz∧cur[o+c]? = some v∧aF nm w L γ (.b r c) 0 x v∧lO x B o c e cur.size v
structure ae8 (nm:FuncId→Option Nat) (N:Nat) (E:Key→V) (γ:Key→Nat) (a:Act) (w:World) (L:aw):Prop where
 size:a.tmps.size=N
 defers:a.defers=[]
 slot:∀i,bD nm w L γ (.s i) (E (.s i)) (a.tmps.getD i undef)
 cell:∀r c x,E (.b r c) = .one x→x≠.dead→D8 nm w L γ r c x
 kg:∀r c,∃y,E (.b r c) = .one y
 bound:∀r c,cp (E (.r r))≤c→E (.b r c) = .one .dead
 room:∀r,r.iW=false→0 < cp (E (.r r))→∃B o cur e fz,L B=some (.box r o)∧w.heap[B]? = some (.cells cur e fz)∧jD cur.size fz∧o+cp (E (.r r))≤cur.size
 ft:r7 w L
 eM:me L
 fE:D6 L
def St.E (S:St) (k:Key):V:=(S.get k).v
def St.γ (S:St) (k:Key):Nat:=(S.get k).g
def Rel (nm:FuncId→Option Nat) (N:Nat) (S:St) (a:Act) (w:World) (L:aw):Prop:=ae8 nm N S.E S.γ a w L
structure df (w w':World) (L L':aw):Prop where
 os:w'.os=w.os
 tape:w'.tape=w.tape
 output:w'.output=w.output
 size:w.heap.size≤w'.heap.size
 bh:r8 w w' L L'
 none:∀B,B < w.heap.size→L B=none→L' B=none∧w'.heap[B]? = w.heap[B]?
 Bz:∀B i o,L B=some (.box (.e i) o)→L' B=some (.box (.e i) o)
theorem df.refl (w:World) (L:aw):df w w L L:=⟨rfl,rfl,rfl,bV _,fun _ h=>⟨h,rfl⟩,fun _ _ h=>⟨h,rfl⟩,fun _ _ _ h=>h⟩
theorem df.trans {w1 w2 w3:World} {L1 L2 L3:aw} (h:df w1 w2 L1 L2) (k:df w2 w3 L2 L3):df w1 w3 L1 L3:=
 ⟨k.os.trans h.os, k.tape.trans h.tape, k.output.trans h.output, je h.size k.size,
   fun B hB => ⟨(k.bh B (h.bh B hB).1).1, (k.bh B (h.bh B hB).1).2.trans (h.bh B hB).2⟩,
   fun B af hB => ⟨(k.none B (HL af h.size) (h.none B af hB).1).1, (k.none B (HL af h.size) (h.none B af hB).1).2.trans (h.none B af hB).2⟩, fun B i o hB => k.Bz B i o (h.Bz B i o hB)⟩
theorem St.BV (S:St) (x:Wr) (k:Key):(S.wr x).get k=if x.k=k then ⟨x.v,if x.keep then (S.get x.k).g else (S.get x.k).g+1⟩ else S.get k:=by
 unfold St.wr;rw [St.ai8]
theorem St.ij (S:St) (x:Wr) (k:Key):(S.wr x).E k=if x.k=k then x.v else S.E k:=by
 unfold St.E;rw [St.BV];split<;>rfl
theorem St.jS (S:St) (x:Wr) (k:Key):(S.wr x).γ k=if x.k=k then (if x.keep then S.γ k else S.γ k+1) else S.γ k:=by
 unfold St.γ;rw [St.BV];by_cases h:x.k=k
 ·subst h;simp only [bW]
 ·simp [h]
def Vw (nm:FuncId→Option Nat) (E:Key→V) (γ:Key→Nat) (a:Act) (w:World) (L:aw) (k:Key) (v:V):Prop:=
 match k with
 | .s i=>bD nm w L γ (.s i) v (a.tmps.getD i undef)
 | .b r c=>∃y,v = .one y∧(y≠.dead→c < cp (E (.r r))∧D8 nm w L γ r c y)
 | .r _=>False
 | _=>True
theorem aF.Lz {nm:FuncId→Option Nat} {w:World} {L:aw} {γ:Key→Nat} {m j:Nat} {x:C} {v:Value} (h:aF nm w L γ (.h m) j x v):∀t,x≠.bt t:=by
 rintro t rfl;cases h with
 | bt hk=>obtain ⟨r,c,h⟩:=hk;cases h
theorem D8.step {nm:FuncId→Option Nat} {w w':World} {L L':aw} {γ γ':Key→Nat} (hs:Step w w' L L' γ γ') {r:aI} {c:Nat} {x:C}
  (kv:∀B q o,q.k = .b r c→L B=some (.row q o)→L' B=some (.row q o)∧w'.heap[B]? = w.heap[B]?)
  (gY : ∀ B o, L B = some (.box r o) → L' B = some (.box r o) ∧
    ∀ cur e fz, w.heap[B]? = some (.cells cur e fz) → ∃ dU : Array Value, w'.heap[B]? = some (.cells dU e fz) ∧ dU.size = cur.size ∧ dU[o + c]? = cur[o + c]?)
  (h:D8 nm w L γ r c x):D8 nm w' L' γ' r c x:=by
 have hc:∀v,aF nm w L γ (.b r c) 0 x v→aF nm w' L' γ' (.b r c) 0 x v:=fun v hv=>
  hv.step hs (fun B q o h1 h2 hL => by
    have := kv B q o h1 hL
    have hq : q.at (.b r c) 0 = q := by cases q; simp only [Place.at] at *; subst h1; subst h2; rfl
    rw [hq]; exact this)
 cases r with
 | g i=>obtain ⟨v,hv⟩:=h;exact ⟨v,hc v hv⟩
 | e i=>
  obtain ⟨B,o,cur,e,fz,v,h1,h2,h3,h4,h5,h6⟩:=h;obtain ⟨g1,g2⟩:=gY B o h1;obtain ⟨dU,g3,g4,g5⟩:=g2 _ _ _ h2;exact ⟨B,o,dU,e,fz,v,g1,g3,by rw [g4];exact h3,g5.trans h4,hc v h5,by rw [g4];exact h6⟩
 | l i=>
  obtain ⟨B,o,cur,e,fz,v,h1,h2,h3,h4,h5,h6⟩:=h;obtain ⟨g1,g2⟩:=gY B o h1;obtain ⟨dU,g3,g4,g5⟩:=g2 _ _ _ h2;exact ⟨B,o,dU,e,fz,v,g1,g3,by rw [g4];exact h3,g5.trans h4,hc v h5,by rw [g4];exact h6⟩
theorem Place.mh (q:Place):q.at q.k q.j=q:=by cases q;rfl
theorem Rel.write {nm:FuncId→Option Nat} {N:Nat} {S:St} {a a':Act} {w w':World} {L L':aw} (h:Rel nm N S a w L) (x:Wr)
  (bf:a'.tmps.size=a.tmps.size) (hdf:a'.defers=[])
  (vO:∀i,x.k≠.s i→a'.tmps.getD i undef=a.tmps.getD i undef)
  (hs:Step w w' L L' S.γ (S.wr x).γ)
  (kv:∀B q o,q.k≠x.k→q.k.aT=true→L B=some (.row q o)→L' B=some (.row q o)∧w'.heap[B]? = w.heap[B]?)
  (gY : ∀ B r o, x.k ≠ .r r → L B = some (.box r o) → L' B = some (.box r o) ∧
    ∀ cur e fz, w.heap[B]? = some (.cells cur e fz) → ∃ dU : Array Value, w'.heap[B]? = some (.cells dU e fz) ∧ dU.size = cur.size ∧ ∀ c, x.k ≠ .b r c → dU[o + c]? = cur[o + c]?)
  (hx:Vw nm S.E (S.wr x).γ a' w' L' x.k x.v)
  (hd:r7 w' L') (oO:me L') (qf:D6 L'):Rel nm N (S.wr x) a' w' L':=by
 refine ⟨bf.trans h.size,hdf,?_,?_,?_,?_,?_,hd,oO,qf⟩
 ·intro i;rw [St.ij];by_cases hk:x.k = .s i
  ·simp only [hk,bW];rw [hk] at hx;exact hx
  ·simp only [hk,dF];rw [vO i hk];refine (h.slot i).step hs ?_;intro B q o hq hL;have:=kv B q o (by rw [hq];exact fun e=>hk e.symm) (by rw [hq];rfl) hL;rwa [←hq,Place.mh]
 ·intro r c y hy jh;have uj:x.k≠.r r:=by intro e;rw [e] at hx;exact hx
  rw [St.ij] at hy;by_cases hk:x.k = .b r c
  ·simp only [hk,bW] at hy;rw [hk] at hx;obtain ⟨y',h1,h2⟩:=hx;rw [hy] at h1;simp only [V.one.injEq] at h1;subst h1;exact (h2 jh).2
  ·simp only [hk,dF] at hy;refine (h.cell r c y hy jh).step hs ?_ ?_
   ·intro B q o hq hL;exact kv B q o (by rw [hq];exact fun e=>hk e.symm) (by rw [hq];rfl) hL
   ·intro B o hL;obtain ⟨h1,h2⟩:=gY B r o uj hL;refine ⟨h1,fun cur e fz hB=>?_⟩;obtain ⟨dU,h3,h4,h5⟩:=h2 cur e fz hB;exact ⟨dU,h3,h4,h5 c hk⟩
 ·intro r c;rw [St.ij];by_cases hk:x.k = .b r c
  ·simp only [hk,bW];rw [hk] at hx;obtain ⟨y,h1,_⟩:=hx;exact ⟨y,h1⟩
  ·simp only [hk,dF];exact h.kg r c
 ·intro r c hc;have uj:x.k≠.r r:=by intro e;rw [e] at hx;exact hx
  rw [St.ij] at hc ⊢;simp only [uj,dF] at hc;by_cases hk:x.k = .b r c
  ·simp only [hk,bW];rw [hk] at hx;obtain ⟨y,h1,h2⟩:=hx;by_cases jh:y = .dead
   ·rw [h1,jh]
   ·have:=(h2 jh).1;omega
  ·simp only [hk,dF];exact h.bound r c hc
 ·intro r hg hr;have uj:x.k≠.r r:=by intro e;rw [e] at hx;exact hx
  rw [St.ij] at hr ⊢;simp only [uj,dF] at hr ⊢;obtain ⟨B,o,cur,e,fz,h1,h2,h3,h4⟩:=h.room r hg hr;obtain ⟨g1,g2⟩:=gY B r o uj h1;obtain ⟨dU,g3,g4,_⟩:=g2 _ _ _ h2;exact ⟨B,o,dU,e,fz,g1,g3,by rw [g4];exact h3,by rw [g4];exact h4⟩
end
section
theorem BT (S:St):∀(ws:List Wr) (k:Key),(S.ah ws).E k=(qb ws k).getD (S.E k)
 | [],k=>rfl
 | x::t,k=>by
  simp only [St.ah,St.ij,qb];by_cases h:x.k=k
  ·simp [h]
  ·simp only [h,dF];exact BT S t k
theorem u7 (S:St) (ws:List Wr) (k:Key):(sh ws k).run S=some ⟨(S.ah ws).E k,S.γ k⟩:=by
 rw [BT];unfold sh;simp only [Q.run_bind,Q.uL,Option.bind_some];cases qb ws k<;>rfl
theorem St.wU (S:St):∀(ws:List Wr) (k:Key),S.γ k≤(S.ah ws).γ k
 | [],_=>bV _
 | x::t,k=>by
  simp only [St.ah,St.jS];have:=wU S t k;by_cases h:x.k=k
  ·subst h;simp only [bW];split<;>omega
  ·simp only [h,dF];exact this
theorem Step.same (w:World) (L:aw) {γ γ':Key→Nat} (h:∀k,γ k≤γ' k):Step w w L L γ γ':=
 ⟨fun _ h=>⟨h,rfl⟩,h,fun _ _ _ _ _ h=>⟨h,fun cur e fz hB=>⟨cur,hB,rfl⟩⟩,fun _ _ _ _ _ _ _=>rfl,fun _ _ _ _ h=>h⟩
theorem St.p7 (S:St) (x:Wr) (k:Key):S.γ k≤(S.wr x).γ k:=by
 rw [St.jS];split<;>(try split)<;>omega
def bump (S:St) (k:Key) (k':Key):Nat:=if k=k' then S.γ k'+1 else S.γ k'
theorem D4 (S:St) (k:Key) (v:V):(S.wr { k,v }).γ=bump S k:=by
 funext k';rw [St.jS];unfold bump;by_cases h:k=k'<;>simp [h]
section
variable {nm:FuncId→Option Nat} {N:Nat} {S:St} {a:Act} {w:World} {L:aw}
theorem Rel.Hx (h:Rel nm N S a w L) (x:Wr) (L':aw) (hk:x.keep=false)
  (fT:∀B,L B=some .bh→L' B=some .bh)
  (kv:∀B q o,q.k≠x.k→q.k.aT=true→L B=some (.row q o)→L' B=some (.row q o))
  (gY:∀B r o,L B=some (.box r o)→L' B=some (.box r o))
  (hx:Vw nm S.E (S.wr x).γ a w L' x.k x.v)
  (hd:∀B l,L' B=some l→∃l0,L B=some l0) (oO:me L') (qf:∀B r o,L' B=some (.box r o)→L B=some (.box r o)) :
  Rel nm N (S.wr x) a w L':=by
 refine h.write x rfl h.defers (fun _ _=>rfl) ?_ (fun B q o h1 h2 h3=>⟨kv B q o h1 h2 h3,rfl⟩) (fun B r o _ hL=>⟨gY B r o hL,fun cur e fz hB=>⟨cur,hB,rfl,fun _ _=>rfl⟩⟩) hx ?_ oO ?_
 ·refine ⟨fun B hB=>⟨fT B hB,rfl⟩,S.p7 x,?_,fun _ _ _ _ _ _ _=>rfl,fun B r o _ hB=>gY B r o hB⟩;intro B q o hq hγ hL;have:q.k≠x.k:=by
   intro e;rw [St.jS,e] at hγ;simp [hk] at hγ
  exact ⟨kv B q o this hq hL,fun cur e fz hB=>⟨cur,hB,rfl⟩⟩
 ·intro B l hB;obtain ⟨l0,h0⟩:=hd B l hB;exact h.ft B l0 h0
 ·intro B B' r o o' h1 h2;exact h.fE B B' r o o' (qf B r o h1) (qf B' r o' h2)
theorem Rel.kill (h:Rel nm N S a w L) (k:Key) (hk:∀r,k≠.r r):Rel nm N (S.wr { k,v:=V.dead }) a w L:=by
 refine h.Hx { k,v:=V.dead } L rfl (fun _ h=>h) (fun _ _ _ _ _ h=>h) (fun _ _ _ h=>h) ?_ (fun B l h=>⟨l,h⟩) h.eM (fun _ _ _ h=>h);cases k with
 | s i=>exact .one .dead
 | b r c=>exact ⟨.dead,rfl,fun jh=>absurd rfl jh⟩
 | r r=>exact absurd rfl (hk r)
 | h i=>trivial
 | a k=>trivial
def cI (f:Place→Option Place) (L:aw):aw:=fun B=>
 match L B with
 | some (.row q o)=>(f q).map fun q'=>.row q' o
 | x=>x
theorem oY {f:Place→Option Place} {B o:Nat} {q:Place} (h:cI f L B=some (.row q o)):∃q0,L B=some (.row q0 o)∧f q0=some q:=by
 unfold cI at h;split at h
 ·rename_i q0 o0 hL;cases hf:f q0 with
  | none=>simp [hf] at h
  | some q1=>simp only [hf,ff,aj,bS.row.injEq] at h;exact ⟨q0,by rw [hL,h.2],by rw [hf,h.1]⟩
 ·exact absurd h (by rename_i h1;exact h1 q o)
theorem gL {f:Place→Option Place} {B o:Nat} {q q':Place} (h:L B=some (.row q o)) (hf:f q=some q'):cI f L B=some (.row q' o):=by
 simp [cI,h,hf]
theorem jM {f:Place→Option Place} {B:Nat}:cI f L B=some .bh↔L B=some .bh:=by
 unfold cI;split
 ·rename_i q0 o0 hL;cases f q0<;>simp [hL]
 ·rfl
theorem jz {f:Place→Option Place} {B o:Nat} {r:aI}:cI f L B=some (.box r o)↔L B=some (.box r o):=by
 unfold cI;split
 ·rename_i q0 o0 hL;cases f q0<;>simp [hL]
 ·rfl
theorem G7 {f:Place→Option Place} {B:Nat} {l:bS} (h:cI f L B=some l):∃l0,L B=some l0:=by
 unfold cI at h;split at h
 ·rename_i q0 o0 hL;exact ⟨_,hL⟩
 ·exact ⟨_,h⟩
theorem G8 {f:Place→Option Place} (h:me L) (hf:∀q q' t B B' o o',f q=some t→f q'=some t→L B=some (.row q o)→L B'=some (.row q' o')→q=q'):me (cI f L):=by
 intro B B' pl o o' h1 h2;obtain ⟨q,g1,g2⟩:=oY h1;obtain ⟨q',g3,g4⟩:=oY h2;obtain rfl:=hf q q' pl B B' o o' g2 g4 g1 g3;exact h B B' q o o' g1 g3
def eI (L:aw):Prop:=∀B q o,L B=some (.row q o)→q.k.aT=true
def qT (L:aw) (m:Nat):Prop:=∀B q o,L B=some (.row q o)→q.k≠.h m
theorem Rel.take (h:Rel nm N S a w L) (i m:Nat) (hm:qT L m) :
  ∃L',Rel nm N (S.wr { k:=.s i,v:=V.dead }) a w L'∧bD nm w L' (S.wr { k:=.s i,v:=V.dead }).γ (.h m) (S.E (.s i)) (a.tmps.getD i undef)∧
   (∀B,L B=some .bh↔L' B=some .bh)∧(∀B q o,q.k≠.s i→q.k≠.h m→(L B=some (.row q o)↔L' B=some (.row q o)))∧(∀B,L' B=none↔L B=none)∧
   (∀B r o,L B=some (.box r o)↔L' B=some (.box r o))∧(∀B q o,L' B=some (.row q o)→q.k≠.s i):=by
 let f:Place→Option Place:=fun q=>if q.k = .s i then some (q.at (.h m) q.j) else some q
 have Qh:∀q,∃t,f q=some t:=fun q=>by by_cases hq:q.k = .s i<;>simp [f,hq]
 have qy:Rel nm N (S.wr { k:=.s i,v:=V.dead }) a w (cI f L):=by
  refine h.Hx { k:=.s i,v:=V.dead } (cI f L) rfl (fun B hB=>jM.2 hB) ?_ (fun B r o hB=>jz.2 hB) (.one .dead) (fun B l hB=>G7 hB) ?_ (fun B r o hB=>jz.1 hB)
  ·intro B q o hq _ hL;exact gL hL (by simp only [f];rw [aB hq])
  ·refine G8 h.eM ?_;intro q q' t B B' o o' h1 h2 hB dD;simp only [f] at h1 h2;by_cases hq:q.k = .s i
   ·rw [aJ hq] at h1;by_cases vK:q'.k = .s i
    ·rw [aJ vK] at h2;rw [←h2] at h1;simp only [aj,Place.at,Place.mk.injEq,ll] at h1;cases q;cases q';simp_all
    ·rw [aB vK] at h2;rw [←h1] at h2;simp only [aj] at h2;exact absurd (by rw [h2];rfl) (hm B' q' o' dD)
   ·rw [aB hq] at h1;by_cases vK:q'.k = .s i
    ·rw [aJ vK] at h2;rw [←h2] at h1;simp only [aj] at h1;exact absurd (by rw [h1];rfl) (hm B q o hB)
    ·rw [aB vK] at h2;rw [←h2] at h1;simpa using h1
 refine ⟨cI f L,qy,?_,fun B=>jM.symm,?_,?_,fun B r o=>jz.symm,?_⟩
 ·refine (h.slot i).step ?_ ?_
  ·refine ⟨fun B hB=>⟨jM.2 hB,rfl⟩,S.p7 _,?_,fun _ _ _ _ _ _ _=>rfl,fun B r o _ hB=>jz.2 hB⟩;intro B q o hq hγ hL;have aA:q.k≠.s i:=by intro e;rw [St.jS,e] at hγ;simp at hγ
   exact ⟨gL hL (by simp only [f];rw [aB aA]),fun cur e fz hB=>⟨cur,hB,rfl⟩⟩
  ·intro B q o hq hL;exact ⟨gL hL (by simp only [f];rw [aJ hq]),rfl⟩
 ·intro B q o h1 h2;constructor
  ·intro hL;exact gL hL (by simp only [f];rw [aB h1])
  ·intro hL;obtain ⟨q0,h3,h4⟩:=oY hL;simp only [f] at h4;by_cases hq:q0.k = .s i
   ·rw [aJ hq] at h4;simp only [aj] at h4;exact absurd (by rw [←h4];rfl) h2
   ·rw [aB hq] at h4;simp only [aj] at h4;rw [←h4];exact h3
 ·intro B;unfold cI;split
  ·rename_i q0 o0 hL;obtain ⟨t,ht⟩:=Qh q0;simp [hL,ht]
  ·rfl
 ·intro B q o hL;obtain ⟨q0,h3,h4⟩:=oY hL;simp only [f] at h4;by_cases hq:q0.k = .s i
  ·rw [aJ hq] at h4;simp only [aj] at h4;rw [←h4];simp [Place.at]
  ·rw [aB hq] at h4;simp only [aj] at h4;rw [←h4];exact hq
theorem Rel.adC (h:Rel nm N S a w L) {i m:Nat} {x:V} {v:Value} (hi:i < N) (hv:bD nm w L S.γ (.h m) x v) :
  ∃L',Rel nm N (S.wr { k:=.s i,v:=x }) (a.put (some i) v) w L'∧eI L'∧df w w L L'∧
   (∀B q o,q.k≠.s i→q.k.aT=true→L B=some (.row q o)→L' B=some (.row q o)):=by
 let f:Place→Option Place:=fun q=>if q.k = .s i then none else if q.k = .h m then some (q.at (.s i) q.j) else if q.k.aT=false then none else some q
 have c6:∀B q o,q.k≠.s i→q.k.aT=true→L B=some (.row q o)→cI f L B=some (.row q o):=by
  intro B q o h1 h2 hL;have h3:q.k≠.h m:=fun e=>by rw [e] at h2;simp [Key.aT] at h2
  exact gL hL (by simp only [f];rw [aB h1,aB h3,aB (by rw [h2];simp)])
 have bA:Step w w L (cI f L) S.γ (S.wr { k:=.s i,v:=x }).γ:=by
  refine ⟨fun B hB=>⟨jM.2 hB,rfl⟩,S.p7 _,?_,fun _ _ _ _ _ _ _=>rfl,fun B r o _ hB=>jz.2 hB⟩;intro B q o hq hγ hL;have aA:q.k≠.s i:=by intro e;rw [St.jS,e] at hγ;simp at hγ
  exact ⟨c6 B q o aA hq hL,fun cur e fz hB=>⟨cur,hB,rfl⟩⟩
 have QM:(a.put (some i) v).tmps=a.tmps.setIfInBounds i v:=rfl;refine ⟨cI f L,?_,?_,?_,c6⟩
 ·refine h.write { k:=.s i,v:=x } (by simp [QM]) h.defers ?_ bA (fun B q o h1 h2 h3=>⟨c6 B q o h1 h2 h3,rfl⟩) (fun B r o _ hL=>⟨jz.2 hL,fun cur e fz hB=>⟨cur,hB,rfl,fun _ _=>rfl⟩⟩) ?_ ?_ ?_ ?_
  ·intro j hj;rw [QM];have aA:i≠j:=fun e=>hj (by rw [e])
   simp [iB,yJ aA]
  ·show bD nm w (cI f L) _ (.s i) x ((a.put (some i) v).tmps.getD i undef);have hg:(a.put (some i) v).tmps.getD i undef=v:=by
    rw [QM];have:i < a.tmps.size:=by rw [h.size];exact hi
    simp [iB,wR,this]
   rw [hg];refine hv.step bA ?_;intro B q o hq hL;exact ⟨gL hL (by simp only [f];rw [aB (by rw [hq];simp),aJ hq]),rfl⟩
  ·intro B l hB;obtain ⟨l0,h0⟩:=G7 hB;exact h.ft B l0 h0
  ·refine G8 h.eM ?_;intro q q' t B B' o o' h1 h2 _ _;simp only [f] at h1 h2;by_cases hq:q.k = .s i
   ·simp [hq] at h1
   by_cases vK:q'.k = .s i
   ·simp [vK] at h2
   rw [aB hq] at h1;rw [aB vK] at h2;by_cases Cg:q.k = .h m
   ·rw [aJ Cg] at h1;by_cases vE:q'.k = .h m
    ·rw [aJ vE] at h2;rw [←h2] at h1;simp only [aj,Place.at,Place.mk.injEq,ll] at h1;cases q;cases q';simp_all
    ·rw [aB vE] at h2;split at h2
     ·simp at h2
     ·rw [←h1] at h2;simp only [aj] at h2;exact absurd (by rw [h2];rfl) vK
   ·rw [aB Cg] at h1;split at h1
    ·simp at h1
    ·by_cases vE:q'.k = .h m
     ·rw [aJ vE] at h2;rw [←h2] at h1;simp only [aj] at h1;exact absurd (by rw [h1];rfl) hq
     ·rw [aB vE] at h2;split at h2
      ·simp at h2
      ·rw [←h2] at h1;simpa using h1
  ·intro B B' r o o' h1 h2;exact h.fE B B' r o o' (jz.1 h1) (jz.1 h2)
 ·intro B q o hB;obtain ⟨q0,h1,h2⟩:=oY hB;simp only [f] at h2;split at h2
  ·simp at h2
  ·split at h2
   ·simp only [aj] at h2;rw [←h2];rfl
   ·split at h2
    ·simp at h2
    ·rename_i h3;simp only [aj] at h2;rw [←h2];simpa using h3
 ·refine ⟨rfl,rfl,rfl,bV _,fun B hB=>⟨jM.2 hB,rfl⟩,?_,fun B i o hB=>jz.2 hB⟩;intro B _ hB;exact ⟨by simp [cI,hB],rfl⟩
theorem bD.setCell {w':World} {L':aw} {γ γ':Key→Nat} {k:Key} {x:V} {v:Value} {j:Nat} {c c':C} (h:bD nm w L γ k x v) (hc:x.cells[j]? = some c)
  (hs:Step w w' L L' γ γ')
  (kv:∀B q o,q.k=k→q.j≠j→L B=some (.row q o)→L' B=some (.row q o)∧w'.heap[B]? = w.heap[B]?)
  (hj:∀u,aF nm w L γ k j c u→aF nm w' L' γ' k j c' u):bD nm w' L' γ' k (x.setCell j c') v:=by
 cases h with
 | @one c0 _ h=>
  simp only [V.cells] at hc;cases j with
  | zero=>
   simp only [kE,aj] at hc;subst hc;simp only [V.setCell,bW];exact .one (hj _ h)
  | succ j=>simp at hc
 | @agg cs vs hl h=>
  simp only [V.cells] at hc;simp only [V.setCell];refine .agg (by simpa using hl) ?_;intro j' c1 u h1 h2;rw [Nc] at h1;by_cases Qs:j=j'
  ·subst Qs;simp only [bW] at h1;split at h1
   ·simp only [aj] at h1;subst h1;exact hj u (h j c u hc h2)
   ·simp at h1
  ·simp only [Qs,dF] at h1;refine (h j' c1 u h1 h2).step hs ?_;intro B q o vL JB hL;have:=kv B q o vL (by rw [JB];exact fun e=>Qs e.symm) hL;rwa [←vL,←JB,Place.mh]
 | aq=>simp [V.cells] at hc
open Classical in
noncomputable def gX (t:Place) (L:aw):aw:=fun B=>
 match L B with
 | some (.row q o)=>if bE t q then some .bh else some (.row q o)
 | x=>x
theorem pB {t:Place} {B:Nat} (h:L B=some .bh):gX t L B=some .bh:=by simp [gX,h]
theorem xj {t:Place} {B o:Nat} {r:aI}:gX t L B=some (.box r o)↔L B=some (.box r o):=by
 unfold gX;split
 ·rename_i q0 o0 hL;rw [hL];split<;>simp
 ·rfl
theorem sx {t q:Place} {B o:Nat} (h:L B=some (.row q o)) (hn:¬ bE t q):gX t L B=some (.row q o):=by simp [gX,h,hn]
theorem xk {t q:Place} {B o:Nat} (h:L B=some (.row q o)) (hn:bE t q):gX t L B=some .bh:=by simp [gX,h,hn]
theorem BQ {t q:Place} {B o:Nat} (h:gX t L B=some (.row q o)):L B=some (.row q o)∧¬ bE t q:=by
 unfold gX at h;split at h
 ·rename_i q0 o0 hL;split at h
  ·simp at h
  ·rename_i hn;simp only [aj,bS.row.injEq] at h;obtain ⟨rfl,rfl⟩:=h;exact ⟨hL,hn⟩
 ·rename_i h1;exact absurd h (h1 q o)
theorem Yz {t:Place} {B:Nat} {l:bS} (h:gX t L B=some l):∃l0,L B=some l0:=by
 unfold gX at h;split at h
 ·rename_i q0 o0 hL;exact ⟨_,hL⟩
 ·exact ⟨_,h⟩
theorem ai0 {t:Place} {B:Nat}:gX t L B=none↔L B=none:=by
 unfold gX;split
 ·rename_i q0 o0 hL;rw [hL];split<;>simp
 ·rfl
theorem YA {t:Place} (h:me L):me (gX t L):=fun B B' pl o o' h1 h2=>h B B' pl o o' (BQ h1).1 (BQ h2).1
theorem YB (t:Place):df w w L (gX t L):=
 ⟨rfl,rfl,rfl,bV _,fun B hB=>⟨pB hB,rfl⟩,fun B _ hB=>⟨ai0.2 hB,rfl⟩,fun B i o hB=>xj.2 hB⟩
theorem bE.key {t q:Place} (h:bE t q):q.k=t.k∧q.j=t.j:=by obtain ⟨r,rfl⟩:=h;exact ⟨rfl,rfl⟩
theorem N2 (S:St) (k k':Key):S.γ k'≤bump S k k':=by unfold bump;split<;>omega
theorem En {S:St} {k k':Key} (h:bump S k k'=S.γ k'):k'≠k:=by
 intro e;subst e;simp [bump] at h
theorem Rel.adj (h:Rel nm N S a w L) {k:Key} {j:Nat} {c c':C} {L':aw}
  (hk:(∃i,k = .s i)∨∃r c,k = .b r c) (hE:(S.E k).cells[j]? = some c) (Jg:c≠.dead)
  (fT:∀B,L B=some .bh→L' B=some .bh)
  (kv:∀B q o,q.k≠k→q.k.aT=true→L B=some (.row q o)→L' B=some (.row q o))
  (ajZ:∀B q o,q.k=k→q.j≠j→L B=some (.row q o)→L' B=some (.row q o))
  (gY:∀B r o,L' B=some (.box r o)↔L B=some (.box r o))
  (hd:∀B l,L' B=some l→∃l0,L B=some l0) (oO:me L')
  (fG:∀u,aF nm w L S.γ k j c u→aF nm w L' (bump S k) k j c' u) (P6:∀t,c'≠.bt t:=by intro t h;cases h) :
  Rel nm N (S.wr { k,v:=(S.E k).setCell j c' }) a w L':=by
 have bA:Step w w L L' S.γ (bump S k):=by
  refine ⟨fun B hB=>⟨fT B hB,rfl⟩,N2 S k,?_,fun _ _ _ _ _ _ _=>rfl,fun B r o _ hB=>(gY B r o).2 hB⟩;intro B q o hq hγ hL;exact ⟨kv B q o (En hγ) hq hL,fun cur e fz hB=>⟨cur,hB,rfl⟩⟩
 refine h.Hx _ _ rfl fT (fun B q o h1 h2 h3=>kv B q o h1 h2 h3) (fun B r o hB=>(gY B r o).2 hB) ?_ hd oO (fun B r o hB=>(gY B r o).1 hB);rw [D4];rcases hk with ⟨i,rfl⟩ | ⟨r,cc,rfl⟩
 ·exact (h.slot i).setCell hE bA (fun B q o h1 h2 hL=>⟨ajZ B q o h1 h2 hL,rfl⟩) fG
 ·obtain ⟨c0,vp⟩:=h.kg r cc;rw [vp] at hE;simp only [V.cells] at hE;cases j with
  | succ j=>simp at hE
  | zero=>
   simp only [kE,aj] at hE;subst hE;have af:cc < cp (S.E (.r r)):=by
    refine Nat.lt_of_not_le fun hle=>Jg ?_
    have:=h.bound r cc hle;rw [vp] at this;simpa using this
   refine ⟨c',by simp [vp,V.setCell],fun _=>⟨af,?_⟩⟩;have hold:=h.cell r cc _ vp Jg;cases r with
   | g i=>obtain ⟨v,hv⟩:=hold;exact ⟨v,fG v hv⟩
   | e i=>obtain ⟨B,o,cur,e,fz,v,h1,h2,h3,h4,h5⟩:=hold;exact ⟨B,o,cur,e,fz,v,(gY _ _ _).2 h1,h2,h3,h4,fG v h5.1,.of P6⟩
   | l i=>obtain ⟨B,o,cur,e,fz,v,h1,h2,h3,h4,h5⟩:=hold;exact ⟨B,o,cur,e,fz,v,(gY _ _ _).2 h1,h2,h3,h4,fG v h5.1,.of P6⟩
theorem Rel.aiZ (h:Rel nm N S a w L) {k:Key} {j:Nat} {p:List (Nat×Nat)} {x:D} {sz:Nat} {rows:List (List D)}
  (hk:(∃i,k = .s i)∨∃r c,k = .b r c) (hE:(S.E k).cells[j]? = some (.d x)) (hn:ew x p=some (.sl .own sz rows)) :
  Rel nm N (S.wr { k,v:=(S.E k).setCell j (.d (eF x p (.sl (.im false) sz (aV rows)))) }) a w (gX ⟨k,j,p⟩ L):=by
 refine h.adj hk hE (by simp) (fun B hB=>pB hB) (fun B q o hq _ hL=>sx hL (fun hu=>hq hu.key.1)) (fun B q o _ hq hL=>sx hL (fun hu=>hq hu.key.2))
  (fun B r o=>xj) (fun B l hB=>Yz hB) (YA h.eM) ?_
 intro u hu;cases hu with
 | d hd=>
  refine .d ?_;have B6:(⟨k,j,[]⟩:Place).app p=⟨k,j,p⟩:=by simp [Place.app]
  refine br.subst p hd hn (fun B hB=>⟨pB hB,rfl⟩) ?_ ?_ rfl
  ·intro B' q o' _ h2 h3;rw [B6] at h2;exact sx h3 h2
  ·intro u' jv;rw [B6] at jv ⊢;refine .plain ?_;have:=br.freeze (w':=w) (L':=gX ⟨k,j,p⟩ L) (bE ⟨k,j,p⟩) (fun q i c h=>h.sub i c) (fun B hB=>⟨pB hB,rfl⟩) (fun B q o hq hL=>⟨xk hL hq,rfl⟩) jv (bE.refl _);simpa [kX] using this
theorem Rel.grow (h:Rel nm N S a w L) {w':World} {L':aw} (ek:∀B l,L B=some l→w'.heap[B]? = w.heap[B]?) (hL:∀B l,L B=some l→L' B=some l)
  (hd:r7 w' L') (oO:me L') (qf:D6 L'):Rel nm N S a w' L':=by
 have bA:Step w w' L L' S.γ S.γ:=by
  refine ⟨fun B hB=>⟨hL B _ hB,ek B _ hB⟩,fun _=>bV _,?_,fun B q o _ _ _ hB=>ek B _ hB,fun B r o _ hB=>hL B _ hB⟩;intro B q o _ _ hB;exact ⟨hL B _ hB,fun cur e fz hc=>⟨cur,(ek B _ hB).trans hc,rfl⟩⟩
 refine ⟨h.size,h.defers,?_,?_,h.kg,h.bound,fun r hg hr=>let ⟨B,o,cur,e,fz,h1,h2,h3,h4⟩:=h.room r hg hr;⟨B,o,cur,e,fz,hL B _ h1,(ek B _ h1).trans h2,h3,h4⟩,hd,oO,qf⟩
 ·intro i;refine (h.slot i).step bA ?_;intro B q o hq hB;refine ⟨?_,ek B _ hB⟩;rw [←hq,Place.mh];exact hL B _ hB
 ·intro r c x hx gi;exact (h.cell r c x hx gi).step bA (fun B q o _ hB=>⟨hL B _ hB,ek B _ hB⟩) (fun B o hB=>⟨hL B _ hB,fun cur e fz hc=>⟨cur,(ek B _ hB).trans hc,rfl,rfl⟩⟩)
theorem Rel.drew (h:Rel nm N S a w L):Rel nm N S a w.drew L:=
 h.grow (fun _ _ _=>rfl) (fun _ _ h=>h) h.ft h.eM h.fE
theorem df.drew (w:World) (L:aw):df w w.drew L L:=⟨rfl,rfl,rfl,bV _,fun _ h=>⟨h,rfl⟩,fun _ _ h=>⟨h,rfl⟩,fun _ _ _ h=>h⟩
def aw.put (L:aw) (B:Nat) (l:bS):aw:=fun B'=>if B'=B then some l else L B'
theorem aw.kZ (L:aw) (B:Nat) (l:bS):L.put B l B=some l:=by simp [aw.put]
theorem aw.gw {L:aw} {B B':Nat} {l:bS} (h:B'≠B):L.put B l B'=L B':=by simp [aw.put,h]
theorem oL (w:World) (o:Obj):(w.alloc o).heap[w.heap.size]? = some o:=by
 show (w.heap.push o)[w.heap.size]? = _;simp
theorem nk (w:World) (o:Obj) {B:Nat} (h:B≠w.heap.size):(w.alloc o).heap[B]? = w.heap[B]?:=by
 show (w.heap.push o)[B]? = _;rw [UR,aB (fun e=>h e)]
theorem r7.new (h:r7 w L):L w.heap.size=none:=by
 cases hl:L w.heap.size with
 | none=>rfl
 | some l=>exact absurd (h _ _ hl) (Vf _)
theorem df.alloc (w:World) (L:aw) (hd:r7 w L) (o:Obj) (l:bS):df w (w.alloc o) L (L.put w.heap.size l):=by
 refine ⟨rfl,rfl,rfl,by simp,?_,?_,fun B i o hB=>by rw [aw.gw (fun e=>by rw [e,hd.new] at hB;cases hB)];exact hB⟩
 ·intro B hB;have:B≠w.heap.size:=fun e=>by rw [e,hd.new] at hB;cases hB
  exact ⟨by rw [aw.gw this];exact hB,nk w _ this⟩
 ·intro B af hB;have:B≠w.heap.size:=by omega
  exact ⟨by rw [aw.gw this];exact hB,nk w _ this⟩
end
end
section
theorem abu {S:St}:∀(p:List (Nat×Nat)) (x y:D),(xZ x p).run S=some y→ew x p=some y
 | [],x,y,h=>by
  have:x=y:=by cases x<;>simpa [xZ] using h
  subst this;cases x<;>rfl
 | (i,c)::p,x,y,h=>by
  cases x with
  | sl t sz rows=>
   cases t with
   | own=>
    simp only [xZ,Q.run_bind,Q.yA] at h;rw [ew];cases h1:rows[i]? with
    | none=>simp [h1] at h
    | some row=>
     simp only [h1,Option.bind_some] at h ⊢;cases h2:row[c]? with
     | none=>simp [h2] at h
     | some z=>
      simp only [h2,Option.bind_some] at h ⊢;cases h3:(Q.NP z).run S with
      | none=>simp [h3] at h
      | some z'=>
       simp only [h3,Option.bind_some] at h;obtain rfl:=Q.apu S h3;exact abu p _ _ h
   | im b=>simp [xZ] at h
  | _=>simp [xZ] at h
theorem uF {S:St} {ws:List Wr} {pl:Place} {g sz:Nat} {r:mV×D×List (List D)} (h:(jw ws pl g sz).run S=some r) :
  r.1=⟨(S.ah ws).E pl.k,S.γ pl.k⟩∧g=S.γ pl.k∧((S.ah ws).E pl.k).cells[pl.j]? = some (.d r.2.1)∧ew r.2.1 pl.p=some (.sl .own sz r.2.2):=by
 unfold jw at h;simp only [Q.run_bind,u7,Option.bind_some,Q.lH] at h;by_cases hg:(S.γ pl.k==g)=true
 ·simp only [hg,bW,Option.bind_some] at h;cases hc:((S.ah ws).E pl.k).cells[pl.j]? with
  | none=>simp [hc] at h
  | some c=>
   rw [hc] at h;cases c with
   | d x=>
    simp only [Q.run_bind] at h;cases nS:(xZ x pl.p).run S with
    | none=>simp [nS] at h
    | some y=>
     have hn:=abu _ _ _ nS;simp only [nS,Option.bind_some] at h;cases y with
     | sl t cu rows=>
      cases t with
      | own=>
       simp only [Q.run_bind,Q.lH] at h;by_cases hs:(cu==sz)=true
       ·simp only [hs,bW,Option.bind_some,Q.run_pure,aj] at h;have jY:cu=sz:=by simpa using hs
        subst h;subst jY;exact ⟨rfl,by simpa using (eW.1 hg).symm,rfl,hn⟩
       ·simp [hs] at h
      | im b=>simp at h
     | int=>simp at h
     | bool=>simp at h
     | str=>simp at h
     | dead=>simp at h
   | _=>simp at h
 ·simp [hg] at h
theorem Step.trans {w1 w2 w3:World} {L1 L2 L3:aw} {γ1 γ2 γ3:Key→Nat} (h:Step w1 w2 L1 L2 γ1 γ2) (k:Step w2 w3 L2 L3 γ2 γ3):Step w1 w3 L1 L3 γ1 γ3:=by
 have hle:∀x,γ3 x=γ1 x→γ2 x=γ1 x∧γ3 x=γ2 x:=fun x e=>by
  have h1:=h.dT x;have h2:=k.dT x;omega
 refine ⟨fun B hB=>⟨(k.bh B (h.bh B hB).1).1,(k.bh B (h.bh B hB).1).2.trans (h.bh B hB).2⟩,fun x=>je (h.dT x) (k.dT x),?_,?_,?_⟩
 ·intro B q o hq he hB;obtain ⟨e1,e2⟩:=hle _ he;obtain ⟨g1,g2⟩:=h.view B q o hq e1 hB;obtain ⟨g3,g4⟩:=k.view B q o hq e2 g1;refine ⟨g3,fun cur e fz hc=>?_⟩;obtain ⟨dU,g5,g6⟩:=g2 cur e fz hc;obtain ⟨afV,g7,g8⟩:=g4 dU e fz g5;exact ⟨afV,g7,g8.trans g6⟩
 ·intro B q o hq he ha hB;obtain ⟨e1,e2⟩:=hle _ he;obtain ⟨e3,e4⟩:=hle _ ha;exact (k.app B q o hq e2 e4 (h.view B q o hq e1 hB).1).trans (h.app B q o hq e1 e3 hB)
 ·intro B r o he hB;obtain ⟨e1,e2⟩:=hle _ he;exact k.box B r o e2 (h.box B r o e1 hB)
structure ch (nm:FuncId→Option Nat) (N:Nat) (S0:St) (w0:World) (L0:aw) (ws:List Wr) (a:Act) (w:World) (L:aw):Prop where
 rel:Rel nm N (S0.ah ws) a w L
 di:Step w0 w L0 L S0.γ (S0.ah ws).γ
 mono:df w0 w L0 L
 rows:∀B q o,q.k.aT=true→L B=some (.row q o)→L0 B=some (.row q o)
 heap:∀B l,L0 B=some l→w.heap[B]? = w0.heap[B]?
 vT:me L0
 boxes:∀B r o,L0 B=some (.box r o)→L B=some (.box r o)
section
variable {nm:FuncId→Option Nat} {N:Nat} {S0:St} {w0:World} {L0:aw} {ws:List Wr} {a:Act} {w:World} {L:aw}
theorem ch.init {S:St} (h:Rel nm N S a w L):ch nm N S w L [] a w L:=
 ⟨h,Step.same w L (fun _=>bV _),df.refl w L,fun _ _ _ _ h=>h,fun _ _ _=>rfl,h.eM,fun _ _ _ h=>h⟩
theorem ch.freeze (M:ch nm N S0 w0 L0 ws a w L) {k:Key} {j:Nat} {p:List (Nat×Nat)} {x:D} {sz:Nat} {rows:List (List D)}
  (hk:k.aT=true) (hE:((S0.ah ws).E k).cells[j]? = some (.d x)) (hn:ew x p=some (.sl .own sz rows)) :
  ch nm N S0 w0 L0 (nA ws k (((S0.ah ws).E k).setCell j (.d (eF x p (.sl (.im false) sz (aV rows)))))) a w (gX ⟨k,j,p⟩ L):=by
 have gH:(∃i,k = .s i)∨∃r c,k = .b r c:=by
  cases k with
  | s i=>exact .inl ⟨i,rfl⟩
  | b r c=>exact .inr ⟨r,c,rfl⟩
  | _=>simp [Key.aT] at hk
 have qy:=M.rel.aiZ gH hE hn;refine ⟨qy,M.di.trans ?_,M.mono.trans (YB _),fun B q o hq hB=>M.rows B q o hq (BQ hB).1,M.heap,M.vT,fun B r o hB=>xj.2 (M.boxes B r o hB)⟩;show Step w w L _ (S0.ah ws).γ ((S0.ah ws).wr { k,v:=_ }).γ;rw [D4];refine ⟨fun B hB=>⟨pB hB,rfl⟩,N2 _ k,?_,fun _ _ _ _ _ _ _=>rfl,fun B r o _ hB=>xj.2 hB⟩;intro B q o hq hγ hL;exact ⟨sx hL (fun hu=>En hγ hu.key.1),fun cur e fz hB=>⟨cur,hB,rfl⟩⟩
theorem aqx {t:Place} {sz off len:Nat} {rows:List (List D)} {u v:Value} {w0:World} {L0 L:aw} (re:me L0)
  (vM:∀B o,L B=some (.row t o)→L0 B=some (.row t o))
  (hd:br w L t (.sl .own sz rows) u) (hv:A' w0 L0 t sz off len v) (hle:off+len≤rows.length) :
  fL w (gX t L) (.sl (.im false) sz (aV ((rows.drop off).take len))) v:=by
 by_cases hlen:len=0
 ·subst hlen;simp only [HK,aV];rcases hv with ⟨_,a,rfl⟩ | ⟨B,o,cap,cur,e,fz,rfl,_⟩
  ·exact .mL
  ·exact .mL
 rcases hv with ⟨h0,_⟩ | ⟨B,o,cap,afW,e0,YD,rfl,bf,qd,_,_,ajK,_⟩
 ·exact absurd h0 hlen
 rcases hd.nX with ⟨rfl,_⟩ | ⟨B',o',ze,cur,e,fz,val,rfl,_,hL,hB,cU,fO,dN,dI,cr,hr,ec⟩
 ·simp at hle;omega
 have fh:=vM B' o' hL;obtain rfl:=re B' B t o' o fh qd;obtain rfl:o'=o:=by rw [fh] at qd;simpa using qd
 have hl:((rows.drop off).take len).length=len:=by simp;omega
 have fG:∀i c x,cellOf (aV ((rows.drop off).take len)) i c=some x→∃y,cellOf rows (off+i) c=some y∧x=kX y∧i < len:=by
  intro i c x hx;rw [Br] at hx;cases hy:cellOf ((rows.drop off).take len) i c with
  | none=>simp [hy] at hx
  | some y=>
   simp only [hy,ff,aj] at hx;obtain ⟨r,h1,h2⟩:=kK.1 hy;have kP:i < len:=by
    have:=(cA.1 h1).1;omega
   refine ⟨y,kK.2 ⟨r,?_,h2⟩,hx.symm,kP⟩;rw [yN kP,tH] at h1;exact h1
 have cL:(aV ((rows.drop off).take len)).length=len:=by rw [Av,hl]
 have:fL w (gX t L) (.sl (.im false) sz (aV ((rows.drop off).take len))) (.slice (some ⟨B',o'+off * sz,none⟩) (aV ((rows.drop off).take len)).length cap):=by
  refine .pl (cur:=cur) (e:=e) (fz:=fz) (fun i c=>val (off+i) c) ?_ bf (by rw [cL];exact ajK) (xk hL (bE.refl _)) hB ?_ ?_ ?_
  ·intro h;rw [h] at cL;simp at cL;omega
  ·intro r eV;rw [Dm] at eV;obtain ⟨r1,h1,rfl⟩:=iD.1 eV;simpa using fO r1 (Ni (A4 h1))
  ·intro i c x hx;obtain ⟨y,h1,_,_⟩:=fG i c x hx;have:=cr _ _ _ h1;rw [lN] at this;rw [show o'+off * sz+i * sz+c=o'+(off * sz+i * sz)+c by omega];exact this
  ·intro i c x hx;obtain ⟨y,h1,rfl,_⟩:=fG i c x hx;exact br.freeze (bE t) (fun q i c h=>h.sub i c) (fun B hB=>⟨pB hB,rfl⟩) (fun B q o hq hL=>⟨xk hL hq,rfl⟩) (hr _ _ _ h1) ((bE.refl t).sub _ _)
 rwa [cL] at this
theorem Rel.afH {S:St} (h:Rel nm N S a w L) {k:Key} {j:Nat} {x:D} (hk:k.aT=true)
  (hE:(S.E k).cells[j]? = some (.d x)):∃u,br w L ⟨k,j,[]⟩ x u:=by
 cases k with
 | s i=>
  have:=h.slot i;cases hv:S.E (.s i) with
  | one c=>
   rw [hv] at this hE;cases this with
   | one hc=>
    cases j with
    | succ j=>simp [V.cells] at hE
    | zero=>
     simp only [V.cells,kE,aj] at hE;subst hE;cases hc with
     | d hd=>exact ⟨_,hd⟩
  | agg cs=>
   rw [hv] at this hE;generalize a.tmps.getD i undef=v0 at this;cases this with
   | agg hl hc=>
    rename_i vs;simp only [V.cells] at hE;have hj:j < vs.size:=by rw [←hl];exact (cA.1 hE).1
    have:=hc j _ vs[j] hE (by simp [hj]);cases this with
    | d hd=>exact ⟨_,hd⟩
  | aq vs=>simp [hv,V.cells] at hE
 | b r c=>
  obtain ⟨c0,hv⟩:=h.kg r c;rw [hv] at hE;cases j with
  | succ j=>simp [V.cells] at hE
  | zero=>
   simp only [V.cells,kE,aj] at hE;subst hE;have fG:=h.cell r c _ hv (by simp);cases r with
   | g i=>obtain ⟨v,hv⟩:=fG;cases hv with | d hd=>exact ⟨_,hd⟩
   | e i=>obtain ⟨B,o,cur,e,fz,v,_,_,_,_,hv,_⟩:=fG;cases hv with | d hd=>exact ⟨_,hd⟩
   | l i=>obtain ⟨B,o,cur,e,fz,v,_,_,_,_,hv,_⟩:=fG;cases hv with | d hd=>exact ⟨_,hd⟩
 | r r=>simp [Key.aT] at hk
 | h i=>simp [Key.aT] at hk
 | a k=>simp [Key.aT] at hk
theorem br.adB {pl:Place} {sz:Nat} {rows:List (List D)} {v:Value} (h:br w L pl (.sl .own sz rows) v):VB rows.length v:=by
 rcases h.nX with ⟨rfl,a,rfl⟩ | ⟨B,o,cap,cur,e,fz,val,rfl,bf,hL,hB,cU,fO,dN,dI,cr,hr,ec⟩
 ·exact ⟨_,_,rfl,bV _,rfl⟩
 ·exact ⟨_,_,rfl,dN,rfl⟩
theorem aF.look {γ:Key→Nat} {k:Key} {j:Nat} {c:C} {v:Value} (hk:k.aT=true) (h:aF nm w L γ k j c v) (k':Key) (j':Nat) :
  aF nm w L γ k' j' (c.look k (γ k) j) v:=by
 by_cases qh:∃t,c = .bt t
 ·obtain ⟨t,rfl⟩:=qh;exact .dead
 cases hc:c.own with
 | false=>
  have:c.look k (γ k) j=c:=by
   cases c with
   | d x=>
    cases x with
    | sl t sz rows=>cases t<;>simp_all [C.own,C.look]
    | _=>rfl
   | c8=>simp [C.own] at hc
   | bt t=>exact absurd ⟨t,rfl⟩ qh
   | mp=>simp [C.own] at hc
   | _=>rfl
  rw [this];exact h.any (h.va hc) _ _
 | true=>
  cases h with
  | @d x v h=>
   cases x with
   | sl t sz rows=>
    cases t with
    | own=>
     simp only [C.look];refine .view h.adB hk (bV _) (fun _=>?_);rcases h.nX with ⟨rfl,a,rfl⟩ | ⟨B,o,cap,cur,e,fz,val,rfl,bf,hL,hB,cU,fO,dN,dI,cr,hr,ec⟩
     ·exact .inl ⟨rfl,a,rfl⟩
     ·exact .inr ⟨B,o,cap,cur,e,fz,by simp,bf,hL,hB,cU,dN,by omega,fun _ h0=>ec (.inr (pZ.1 h0))⟩
    | im b=>simp [C.own] at hc
   | _=>simp [C.own] at hc
  | c8=>simp only [C.look];exact .dead
  | bt=>exact absurd ⟨_,rfl⟩ qh
  | mp=>simp only [C.look];exact .dead
  | _=>simp [C.own] at hc
theorem aa4 (k:Key) (g:Nat):∀(cs:List C) (j0 j:Nat),(uA k g j0 cs)[j]? = (cs[j]?).map fun c=>c.look k g (j0+j)
 | [],_,_=>by simp [uA]
 | c::cs,j0,0=>by simp [uA]
 | c::cs,j0,j+1=>by
  simp only [uA,yL];rw [aa4 k g cs (j0+1) j];congr 1;funext c;congr 1;omega
theorem aa5 (k:Key) (g:Nat):∀(cs:List C) (j0:Nat),(uA k g j0 cs).length=cs.length
 | [],_=>rfl
 | c::cs,j0=>by simp [uA,aa5 k g cs]
theorem bD.look {γ:Key→Nat} {k:Key} {x:V} {v:Value} (hk:k.aT=true) (h:bD nm w L γ k x v) (k':Key):bD nm w L γ k' (x.look k (γ k)) v:=by
 cases h with
 | one h=>exact .one (h.look hk _ _)
 | agg hl h=>
  refine .agg (by rw [aa5];exact hl) ?_;intro j c u h1 h2;rw [aa4] at h1;simp only [de] at h1;rename_i cs vs;cases hc:cs[j]? with
  | none=>simp [hc] at h1
  | some c0=>
   simp only [hc,ff,aj] at h1;subst h1;exact (h j c0 u hc h2).look hk _ _
 | aq hl aS h=>exact .aq hl aS (fun i x u h1 h2=>(h i x u h1 h2).any (Ey aS h1) _)
inductive bT (nm:FuncId→Option Nat):X→Operand→Prop where
 | s {i}:bT nm (.s i) (.tmp i)
 | t {i}:bT nm (.t i) (.tmp i)
 | c {x v} (h:∀(w:World) (L:aw) (γ:Key→Nat) (k:Key),bD nm w L γ k x v):bT nm (.c x) (.const v)
 | f {n f} (h:nm f=some n) (ht:n < kM):bT nm (.f n) (.func f)
theorem acI {S:St} (h:Rel nm N S a w L) {x:X} {o:Operand} (ho:bT nm x o) {v:V} (hr:(rd x).run S=some v) (k:Key) :
  bD nm w L S.γ k v (a.eval o):=by
 cases ho with
 | @s i=>
  simp only [rd,Q.run_bind,Q.uL,Option.bind_some,Q.run_pure,aj] at hr;subst hr;exact (h.slot i).look rfl k
 | @t i=>
  simp only [rd,Q.run_bind,Q.uL,Option.bind_some,Q.run_pure,aj] at hr;subst hr;exact (h.slot i).look rfl k
 | @c x v hc=>
  simp only [rd,Q.run_pure,aj] at hr;subst hr;exact hc w L S.γ k
 | @f n cH hf ht=>
  simp only [rd,Q.run_pure,aj] at hr;subst hr;exact .one (.fn (fs:=#[]) (cs:=#[]) ht hf rfl rfl ⟨rfl,rfl⟩ (fun i x u h=>by simp at h) (fun i x u h=>by simp at h))
theorem aF.rP {w':World} {L':aw} {γ γ':Key→Nat} (hs:Step w w' L L' γ γ') {k:Key} {j:Nat} {c:C} {v:Value} (h:aF nm w L γ k j c v)
  (hc:c.clean=true) (k':Key) (j':Nat):aF nm w' L' γ' k' j' c v:=by
 induction h with
 | @d x v h=>
  cases h with
  | plain h=>exact .d (.plain (h.mono hs.bh))
  | jl=>simp [C.clean] at hc
  | own=>simp [C.clean] at hc
 | @ptr r g c v hv hg h=>
  refine .ptr hv (je hg (hs.dT _)) ?_;intro he;have:γ' (.r r)=γ (.r r):=uW (he▸hg) (hs.dT _);obtain ⟨B,o,h1,h2⟩:=h (he.trans this);exact ⟨B,o,hs.box B r o this h1,h2⟩
 | @eD pl g sz i c v hv hh hg h=>
  refine .eD hv hh (je hg (hs.dT _)) ?_;intro he;have:γ' pl.k=γ pl.k:=uW (he▸hg) (hs.dT _);obtain ⟨B,o,h1,h2⟩:=h (he.trans this);exact ⟨B,o,(hs.view B pl o hh this h1).1,h2⟩
 | pp hL hB h=>
  refine .pp (hs.bh _ hL).1 ((hs.bh _ hL).2.trans hB) ?_;intro q x hx;obtain ⟨u,h1,h2⟩:=h q x hx;exact ⟨u,h1,h2.mono hs.bh⟩
 | @view pl g sz off len v hv hh hg h=>
  refine .view hv hh (je hg (hs.dT _)) ?_;intro he;have:γ' pl.k=γ pl.k:=uW (he▸hg) (hs.dT _);exact (h (he.trans this)).step hs hh this
 | c8=>simp [C.clean] at hc
 | fn jI hf h1 h2 aS h3 h4 sP sQ=>
  exact .fn jI hf h1 h2 aS (fun i x u hx hu=>sP i x u hx hu (ko aS.1 hx)) (fun i x u hx hu=>sQ i x u hx hu (ko aS.2 hx))
 | fns val hf hL hB aS hv h ih=>exact .fns val hf (hs.bh _ hL).1 ((hs.bh _ hL).2.trans hB) aS hv (fun i x hx=>ih i x hx (ko aS hx))
 | cE=>exact .cE
 | eX=>exact .eX
 | fR=>exact .fR
 | fj=>exact .fj
 | bt=>simp [C.clean] at hc
 | mp=>simp [C.clean] at hc
 | @gj i g v hv hg h=>
  refine .gj hv (je hg (hs.dT _)) ?_;intro he;have:γ' (.b (.g i) 0)=γ (.b (.g i) 0):=uW (he▸hg) (hs.dT _);obtain ⟨B,h1,h2⟩:=h (he.trans this);exact ⟨B,(hs.view B _ 0 rfl this h1).1,h2⟩
 | dead=>exact .dead
theorem bD.rP {w':World} {L':aw} {γ γ':Key→Nat} (hs:Step w w' L L' γ γ') {k:Key} {x:V} {v:Value} (h:bD nm w L γ k x v)
  (hc:x.clean=true) (k':Key):bD nm w' L' γ' k' x v:=by
 induction h with
 | one h=>exact .one (h.rP hs hc _ _)
 | agg hl h=>exact .agg hl (fun j c u h1 h2=>(h j c u h1 h2).rP hs (ko hc h1) _ _)
 | aq hl aS h ih=>exact .aq hl aS (fun i x u h1 h2=>ih i x u h1 h2 (Ey aS h1))
def iS (nm:FuncId→Option Nat) (w0:World) (L0:aw) (γ0:Key→Nat) (w:World) (L:aw) (γ:Key→Nat) (m j:Nat) (c:C) (v:Value):Prop:=
 match c with
 | .view .. => aF nm w0 L0 γ0 (.h m) j c v
 | _=>aF nm w L γ (.h m) j c v
theorem iS.Ar {γ0 γ:Key→Nat} (hs:Step w0 w L0 L γ0 γ) {k:Key} {m j j':Nat} {c:C} {v:Value} (h:aF nm w0 L0 γ0 k j' c v) (hc:c.own=false):iS nm w0 L0 γ0 w L γ m j c v:=by
 have aS:=h.va hc;have bA:aF nm w L γ (.h m) j c v:=h.rP hs aS _ _;have h0:aF nm w0 L0 γ0 (.h m) j c v:=h.any aS _ _;cases c with
 | view=>exact h0
 | _=>exact bA
structure pk (w w':World) (L L':aw) (γ γ':Key→Nat) (K:Place→Prop):Prop where
 di:Step w w' L L' γ γ'
 h:∀B q o,q.k.aT=false→K q→L B=some (.row q o)→L' B=some (.row q o)∧w'.heap[B]? = w.heap[B]?
theorem iS.keep {γ0 γ γ':Key→Nat} {w':World} {L':aw} {m j:Nat} {c:C} {v:Value} {K:Place→Prop} (hk:pk w w' L L' γ γ' K)
  (hK:∀p,K ⟨.h m,j,p⟩) (h:iS nm w0 L0 γ0 w L γ m j c v):iS nm w0 L0 γ0 w' L' γ' m j c v:=by
 have step:∀{c:C},aF nm w L γ (.h m) j c v→aF nm w' L' γ' (.h m) j c v:=by
  intro c hc;refine hc.step hk.di ?_;intro B q o h1 h2 hL;have:=hk.h B q o (by rw [h1];rfl) (by have:=hK q.p;rw [←h1,←h2] at this;exact this) hL;rwa [←h1,←h2,Place.mh]
 cases c with
 | view=>exact h
 | _=>exact step h
theorem aF.keep {γ γ':Key→Nat} {w':World} {L':aw} {m j:Nat} {c:C} {v:Value} {K:Place→Prop} (hk:pk w w' L L' γ γ' K)
  (hK:∀p,K ⟨.h m,j,p⟩) (h:aF nm w L γ (.h m) j c v):aF nm w' L' γ' (.h m) j c v:=by
 refine h.step hk.di ?_;intro B q o h1 h2 hL;have:=hk.h B q o (by rw [h1];rfl) (by have:=hK q.p;rw [←h1,←h2] at this;exact this) hL;rwa [←h1,←h2,Place.mh]
def mW (nm:FuncId→Option Nat) (w0:World) (L0:aw) (γ0:Key→Nat) (w:World) (L:aw) (γ:Key→Nat) (m:Nat) (x:V) (v:Value):Prop:=
 match x with
 | .one c=>iS nm w0 L0 γ0 w L γ m 0 c v
 | .agg cs=>∃vs:Array Value,v = .agg vs∧cs.length=vs.size∧∀(j:Nat) c u,cs[j]? = some c→vs[j]? = some u→iS nm w0 L0 γ0 w L γ m j c u
 | .aq _=>bD nm w L γ (.h m) x v
theorem mW.keep {γ0 γ γ':Key→Nat} {w':World} {L':aw} {m:Nat} {x:V} {v:Value} {K:Place→Prop} (hk:pk w w' L L' γ γ' K)
  (hK:∀j p,K ⟨.h m,j,p⟩) (h:mW nm w0 L0 γ0 w L γ m x v):mW nm w0 L0 γ0 w' L' γ' m x v:=by
 cases x with
 | one c=>exact iS.keep hk (hK 0) h
 | agg cs=>
  obtain ⟨vs,rfl,hl,hc⟩:=h;exact ⟨vs,rfl,hl,fun j c u h1 h2=>(hc j c u h1 h2).keep hk (hK j)⟩
 | aq vs=>
  refine bD.step hk.di ?_ h;intro B q o h1 hL;have:=hk.h B q o (by rw [h1];rfl) (by have:=hK q.j q.p;rw [←h1] at this;exact this) hL;rwa [←h1,Place.mh]
theorem LZ {x:V} {j:Nat} {c:C} (h:x.own=false) (hc:x.cells[j]? = some c):c.own=false:=by
 unfold V.own at h;rw [List.any_eq_false] at h;have:=h c (fp hc);simpa using this
theorem mW.Ar {γ0 γ:Key→Nat} (hs:Step w0 w L0 L γ0 γ) {k:Key} {m:Nat} {x:V} {v:Value} (h:bD nm w0 L0 γ0 k x v) (hc:x.own=false):mW nm w0 L0 γ0 w L γ m x v:=by
 cases h with
 | one h=>exact iS.Ar hs h (LZ (j:=0) hc rfl)
 | @agg cs vs hl h=>exact ⟨vs,rfl,hl,fun j c u h1 h2=>iS.Ar hs (h j c u h1 h2) (LZ hc h1)⟩
 | aq hl aS h=>exact bD.rP hs (.aq hl aS h) (by simpa [V.clean] using aS) _
theorem C8 (k:Key) (g j:Nat) (c:C):(c.look k g j).own=false:=by
 cases c with
 | d x=>
  cases x with
  | sl t sz rows=>cases t<;>rfl
  | _=>rfl
 | _=>rfl
theorem aa6 (k:Key) (g:Nat):∀(cs:List C) (j:Nat),(uA k g j cs).any C.own=false
 | [],_=>rfl
 | c::cs,j=>by simp [uA,C8,aa6 k g cs (j+1)]
theorem V.C8 (k:Key) (g:Nat) (x:V):(x.look k g).own=false:=by
 cases x with
 | one c=>simp [V.look,V.own,V.cells,Go.ax.C8]
 | agg cs=>simp only [V.look,V.own,V.cells];exact aa6 k g cs 0
 | aq vs=>rfl
def X.iL:X→Bool
 | .c v=>!v.own
 | _=>true
theorem Ml {S:St} {x:X} (hx:x.iL=true) {v:V} (hr:(rd x).run S=some v):v.own=false:=by
 cases x with
 | s i=>
  simp only [rd,Q.run_bind,Q.uL,Option.bind_some,Q.run_pure,aj] at hr;subst hr;exact V.C8 _ _ _
 | t i=>
  simp only [rd,Q.run_bind,Q.uL,Option.bind_some,Q.run_pure,aj] at hr;subst hr;exact V.C8 _ _ _
 | c v=>
  simp only [rd,Q.run_pure,aj] at hr;subst hr;simpa [X.iL] using hx
 | f n=>
  simp only [rd,Q.run_pure,aj] at hr;subst hr;rfl
structure Out (nm:FuncId→Option Nat) (N:Nat) (S0:St) (w0:World) (L0:aw) (ws e8:List Wr) (a:Act) (w:World) (L L':aw) (K:Place→Prop) (m:Nat):Prop where
 mid:ch nm N S0 w0 L0 e8 a w L'
 di:Step w w L L' (S0.ah ws).γ (S0.ah e8).γ
 CG:∀B q o,q.k.aT=false→K q→L B=some (.row q o)→L' B=some (.row q o)
 yi:∀B q o,q.k.aT=false→q.k≠.h m→L' B=some (.row q o)→L B=some (.row q o)
theorem Out.refl (M:ch nm N S0 w0 L0 ws a w L) (K:Place→Prop) (m:Nat):Out nm N S0 w0 L0 ws ws a w L L K m:=
 ⟨M,Step.same w L (fun _=>bV _),fun _ _ _ _ _ h=>h,fun _ _ _ _ _ h=>h⟩
theorem Out.trans {e8 aeS:List Wr} {L' D9:aw} {K:Place→Prop} {m:Nat} (h:Out nm N S0 w0 L0 ws e8 a w L L' K m) (k:Out nm N S0 w0 L0 e8 aeS a w L' D9 K m) :
  Out nm N S0 w0 L0 ws aeS a w L D9 K m:=
 ⟨k.mid,h.di.trans k.di,fun B q o h1 h2 h3=>k.CG B q o h1 h2 (h.CG B q o h1 h2 h3),fun B q o h1 h2 h3=>h.yi B q o h1 h2 (k.yi B q o h1 h2 h3)⟩
theorem Out.weaken {e8:List Wr} {L':aw} {K K':Place→Prop} {m:Nat} (h:Out nm N S0 w0 L0 ws e8 a w L L' K m) (hK:∀q,K' q→K q):Out nm N S0 w0 L0 ws e8 a w L L' K' m:=
 ⟨h.mid,h.di,fun B q o h1 h2=>h.CG B q o h1 (hK q h2),h.yi⟩
theorem Out.keep {e8:List Wr} {L':aw} {K:Place→Prop} {m:Nat} (h:Out nm N S0 w0 L0 ws e8 a w L L' K m):pk w w L L' (S0.ah ws).γ (S0.ah e8).γ K:=
 ⟨h.di,fun B q o h1 h2 h3=>⟨h.CG B q o h1 h2 h3,rfl⟩⟩
theorem Out.free {e8:List Wr} {L':aw} {K:Place→Prop} {m m':Nat} (h:Out nm N S0 w0 L0 ws e8 a w L L' K m) (hf:qT L m') (aA:m'≠m):qT L' m':=by
 intro B q o hL e;exact hf B q o (h.yi B q o (by rw [e];rfl) (by rw [e];simpa using aA) hL) e
theorem wG (M:ch nm N S0 w0 L0 ws a w L) (R0:Rel nm N S0 a w0 L0) {m:Nat} (hm:qT L m) {x:X} {o:Operand} (hx:x.iL=true) (ho:bT nm x o) {r:V×List Wr}
  (hr:(tk ws x).run S0=some r) :
  ∃L',Out nm N S0 w0 L0 ws r.2 a w L L' (fun _=>True) m∧mW nm w0 L0 S0.γ w L' (S0.ah r.2).γ m r.1 (a.eval o):=by
 have reads:∀v,(rd x).run S0=some v→mW nm w0 L0 S0.γ w L (S0.ah ws).γ m v (a.eval o):=fun v hv=>
  mW.Ar M.di (acI R0 ho hv (.h m)) (Ml hx hv)
 cases x with
 | t i=>
  cases ho with
  | t=>
  simp only [tk,Q.run_bind,Q.uL,Option.bind_some,Q.lH] at hr;cases hw:qb ws (.s i) with
  | some v=>simp [hw] at hr
  | none=>
   simp only [hw,Option.isNone_none,bW,Option.bind_some,Q.run_ite,Q.run_pure] at hr;have hE:(S0.ah ws).E (.s i)=S0.E (.s i):=by rw [BT,hw];rfl
   by_cases kv:S0.E (.s i) |>.own
   ·have JA:(S0.get (.s i)).v.own=true:=kv;simp only [JA,bW,aj] at hr;subst hr;obtain ⟨L',h1,h2,h3,h4,h5,h6,h7⟩:=M.rel.take i m hm;rw [hE] at h2;have ZP:Step w w L L' (S0.ah ws).γ ((S0.ah ws).wr { k:=.s i,v:=V.dead }).γ:=by
     refine ⟨fun B hB=>⟨(h3 B).1 hB,rfl⟩,St.p7 _ _,?_,fun _ _ _ _ _ _ _=>rfl,fun B r o _ hB=>(h6 B r o).1 hB⟩;intro B q o hq hγ hL;rw [D4] at hγ;have aA:=En hγ;exact ⟨(h4 B q o aA (by intro e;rw [e] at hq;simp [Key.aT] at hq)).1 hL,fun cur e fz hB=>⟨cur,hB,rfl⟩⟩
    refine ⟨L',⟨⟨h1,M.di.trans ZP,?_,?_,M.heap,M.vT,fun B r o hB=>(h6 B r o).1 (M.boxes B r o hB)⟩,ZP,?_,?_⟩,?_⟩
    ·exact M.mono.trans ⟨rfl,rfl,rfl,bV _,fun B hB=>⟨(h3 B).1 hB,rfl⟩,fun B _ hB=>⟨(h5 B).2 hB,rfl⟩,fun B i o hB=>(h6 B _ o).1 hB⟩
    ·intro B q o hq hL;by_cases ZE:q.k = .s i
     ·exact absurd ZE (h7 B q o hL)
     ·exact M.rows B q o hq ((h4 B q o ZE (by intro e;rw [e] at hq;simp [Key.aT] at hq)).2 hL)
    ·intro B q o hq _ hL;by_cases xD:q.k = .h m
     ·exact absurd xD (hm B q o hL)
     ·exact (h4 B q o (by intro e;rw [e] at hq;simp [Key.aT] at hq) xD).1 hL
    ·intro B q o hq xD hL;exact (h4 B q o (by intro e;rw [e] at hq;simp [Key.aT] at hq) xD).2 hL
    ·have h0:=R0.slot i;show mW nm w0 L0 S0.γ w L' _ m (S0.E (.s i)) (a.tmps.getD i undef);generalize a.tmps.getD i undef=v0 at *;cases hv:S0.E (.s i) with
     | one c=>
      rw [hv] at h2 h0;cases h2 with
      | one h2=>
       cases h0 with
       | one h0=>
        cases c with
        | view=>exact h0.any rfl _ _
        | _=>exact h2
     | agg cs=>
      rw [hv] at h2 h0;cases h2 with
      | @agg _ vs hl h2=>
       refine ⟨vs,rfl,hl,?_⟩;intro j c u g1 g2;cases h0 with
       | agg nR h0=>
        cases c with
        | view=>exact (h0 j _ u g1 g2).any rfl _ _
        | _=>exact h2 j _ u g1 g2
     | aq vs=>rw [hv] at h2;exact h2
   ·have ajY:(S0.E (.s i)).own=false:=by simpa using kv
    have JA:(S0.get (.s i)).v.own=false:=ajY;simp only [JA,r6,dF,aj] at hr;subst hr;exact ⟨L,Out.refl M _ m,mW.Ar M.di (R0.slot i) JA⟩
 | s i=>
  simp only [tk,Q.run_bind] at hr;cases hv:(rd (.s i)).run S0 with
  | none=>simp [hv] at hr
  | some v=>
   simp only [hv,Option.bind_some,Q.run_pure,aj] at hr;subst hr;exact ⟨L,Out.refl M _ m,reads v hv⟩
 | c cv=>
  simp only [tk,Q.run_bind] at hr;cases hv:(rd (.c cv)).run S0 with
  | none=>simp [hv] at hr
  | some v=>
   simp only [hv,Option.bind_some,Q.run_pure,aj] at hr;subst hr;exact ⟨L,Out.refl M _ m,reads v hv⟩
 | f n=>
  simp only [tk,Q.run_bind] at hr;cases hv:(rd (.f n)).run S0 with
  | none=>simp [hv] at hr
  | some v=>
   simp only [hv,Option.bind_some,Q.run_pure,aj] at hr;subst hr;exact ⟨L,Out.refl M _ m,reads v hv⟩
theorem HP {S:St}:∀{ws:List Wr} {k:Key},qb ws k=none→(S.ah ws).γ k=S.γ k
 | [],_,_=>rfl
 | x::t,k,h=>by
  simp only [qb] at h;by_cases hk:x.k=k
  ·simp [hk] at h
  ·simp only [hk,dF] at h;simp only [St.ah,St.jS,hk,dF];exact HP h
theorem I2 {S:St} {ws:List Wr} {k:Key} (h:fresh ws k=true):(S.ah ws).γ k=S.γ k∧(S.ah ws).γ (.a k)=S.γ (.a k)∧(S.ah ws).E k=S.E k:=by
 simp only [fresh,bK,Vl] at h;exact ⟨HP h.1,HP h.2,by rw [BT,h.1];rfl⟩
theorem Rel.aql {S:St} (h:Rel nm N S a w L) {L':aw} (fT:∀B,L B=some .bh→L' B=some .bh)
  (c6:∀B q o,q.k.aT=true→(L B=some (.row q o)→L' B=some (.row q o)))
  (gY:∀B r o,L' B=some (.box r o)↔L B=some (.box r o)) (hd:∀B l,L' B=some l→∃l0,L B=some l0) (oO:me L'):Rel nm N S a w L':=by
 have bA:Step w w L L' S.γ S.γ:=by
  refine ⟨fun B hB=>⟨fT B hB,rfl⟩,fun _=>bV _,?_,fun _ _ _ _ _ _ _=>rfl,fun B r o _ hB=>(gY B r o).2 hB⟩;intro B q o hq _ hB;exact ⟨c6 B q o hq hB,fun cur e fz hc=>⟨cur,hc,rfl⟩⟩
 refine ⟨h.size,h.defers,?_,?_,h.kg,h.bound,fun r hg hr=>let ⟨B,o,cur,e,fz,h1,h2,h3,h4⟩:=h.room r hg hr;⟨B,o,cur,e,fz,(gY _ _ _).2 h1,h2,h3,h4⟩,?_,oO,?_⟩
 ·intro i;refine (h.slot i).step bA ?_;intro B q o hq hB;refine ⟨?_,rfl⟩;rw [←hq,Place.mh];exact c6 B q o (by rw [hq];rfl) hB
 ·intro r c x hx gi;exact (h.cell r c x hx gi).step bA (fun B q o hq hB=>⟨c6 B q o (by rw [hq];rfl) hB,rfl⟩) (fun B o hB=>⟨(gY _ _ _).2 hB,fun cur e fz hc=>⟨cur,hc,rfl,rfl⟩⟩)
 ·intro B l hB;obtain ⟨l0,h0⟩:=hd B l hB;exact h.ft B l0 h0
 ·intro B B' r o o' h1 h2;exact h.fE B B' r o o' ((gY _ _ _).1 h1) ((gY _ _ _).1 h2)
theorem Place.Bg (pl:Place):(⟨pl.k,pl.j,[]⟩:Place).app pl.p=pl:=by cases pl;simp [Place.app]
theorem ch.Bi (M:ch nm N S0 w0 L0 ws a w L) {pl:Place} (hk:pl.k.aT=true) {x:D} {sz:Nat} {rows:List (List D)}
  (hE:((S0.ah ws).E pl.k).cells[pl.j]? = some (.d x)) (hn:ew x pl.p=some (.sl .own sz rows)):∃u,br w L pl (.sl .own sz rows) u:=by
 obtain ⟨u,hu⟩:=M.rel.afH hk hE;obtain ⟨u',jv⟩:=hu.nav pl.p hn;rw [Place.Bg] at jv;exact ⟨u',jv⟩
theorem aqt {t q:Place} (ht:t.k.aT=true) (hq:q.k.aT=false):¬ bE t q:=by
 intro h;rw [h.key.1,ht] at hq;cases hq
theorem Out.freeze (M:ch nm N S0 w0 L0 ws a w L) {pl:Place} (hk:pl.k.aT=true) {x:D} {sz:Nat} {rows:List (List D)}
  (hE:((S0.ah ws).E pl.k).cells[pl.j]? = some (.d x)) (hn:ew x pl.p=some (.sl .own sz rows)) (m:Nat) :
  Out nm N S0 w0 L0 ws (nA ws pl.k (((S0.ah ws).E pl.k).setCell pl.j (.d (eF x pl.p (.sl (.im false) sz (aV rows)))))) a w L (gX pl L) (fun _=>True) m:=by
 refine ⟨M.freeze hk hE hn,?_,fun B q o hq _ hL=>sx hL (aqt hk hq),fun B q o _ _ hL=>(BQ hL).1⟩;show Step w w L _ (S0.ah ws).γ ((S0.ah ws).wr { k:=pl.k,v:=_ }).γ;rw [D4];refine ⟨fun B hB=>⟨pB hB,rfl⟩,N2 _ _,?_,fun _ _ _ _ _ _ _=>rfl,fun B r o _ hB=>xj.2 hB⟩;intro B q o hq hγ hL;exact ⟨sx hL (fun hu=>En hγ hu.key.1),fun cur e fz hB=>⟨cur,hB,rfl⟩⟩
theorem uP (M:ch nm N S0 w0 L0 ws a w L) {m j:Nat} {c:C} {v:Value} (hc:iS nm w0 L0 S0.γ w L (S0.ah ws).γ m j c v) {r:C×List Wr}
  (hr:(st ws c).run S0=some r) :
  ∃L',Out nm N S0 w0 L0 ws r.2 a w L L' (fun q=>¬ (q.k = .h m∧q.j=j)) m∧aF nm w L' (S0.ah r.2).γ (.h m) j r.1 v:=by
 have yG:∀c0:C,st ws c0=pure (c0,ws)→iS nm w0 L0 S0.γ w L (S0.ah ws).γ m j c0 v→(∀pl g sz off len,c0≠.view pl g sz off len)→(st ws c0).run S0=some r→
   ∃L',Out nm N S0 w0 L0 ws r.2 a w L L' (fun q=>¬ (q.k = .h m∧q.j=j)) m∧aF nm w L' (S0.ah r.2).γ (.h m) j r.1 v:=by
  intro c0 h0 h1 xB h2;rw [h0] at h2;simp only [Q.run_pure,aj] at h2;subst h2;refine ⟨L,Out.refl M _ m,?_⟩;cases c0 with
  | view pl g sz off len=>exact absurd rfl (xB pl g sz off len)
  | _=>exact h1
 cases c with
 | view pl g sz off len=>
  simp only [st,Q.run_bind] at hr;cases ho:(jw ws pl g sz).run S0 with
  | none=>simp [ho] at hr
  | some e=>
   obtain ⟨e,x,rows⟩:=e;obtain ⟨rfl,hg,hE,hn⟩:=uF ho;simp only [ho,Option.bind_some,Q.run_bind,Q.lH] at hr;by_cases hle:off+len≤rows.length
   ·simp only [aX hle,bW,Option.bind_some,Q.run_pure,aj] at hr;subst hr;cases hc with
    | view hv hh Qj hV=>
     obtain ⟨u,hu⟩:=M.Bi hh hE hn;refine ⟨gX pl L,(Out.freeze M hh hE hn m).weaken (fun _ _=>trivial),.d (.plain ?_)⟩;exact aqx M.vT (fun B o hL=>M.rows B pl o hh hL) hu (hV hg) hle
   ·simp [hle] at hr
 | c8 pl g aa sz rows=>
  simp only [st,Q.run_bind] at hr;cases ho:(jw ws pl g sz).run S0 with
  | none=>simp [ho] at hr
  | some e=>
   obtain ⟨e,x,dJ⟩:=e;obtain ⟨rfl,hg,hE,hn⟩:=uF ho;simp only [ho,Option.bind_some,Q.run_bind,Q.uL,Q.lH] at hr;cases qn:((S0.get (.a pl.k)).g==aa&&fresh ws pl.k) with
   | false=>simp [qn] at hr
   | true=>
    simp only [qn,bW,Option.bind_some,Q.run_pure,aj] at hr;subst hr;simp only [bK,eW] at qn;obtain ⟨g1,g2,_⟩:=I2 (S:=S0) qn.2;cases hc with
    | c8 hv hh Qj ajl hV=>
     have hA:=hV (by rw [g1];exact hg) (by rw [g2];exact qn.1.symm);have O1:=Out.freeze M hh hE hn m;generalize ur:nA ws pl.k (((S0.ah ws).E pl.k).setCell pl.j (.d (eF x pl.p (.sl (.im false) sz (aV dJ)))))=fe at *;have zP:∀{q:Place},q.k.aT=true→¬ bE ⟨.h m,j,[]⟩ q:=by
      intro q hq hu;rw [hu.key.1] at hq;simp [Key.aT] at hq
     have ZO:Step w w (gX pl L) (gX ⟨.h m,j,[]⟩ (gX pl L)) (S0.ah fe).γ (S0.ah fe).γ:=by
      refine ⟨fun B hB=>⟨pB hB,rfl⟩,fun _=>bV _,?_,fun _ _ _ _ _ _ _=>rfl,fun B r o _ hB=>xj.2 hB⟩;intro B q o hq _ hL;exact ⟨sx hL (zP hq),fun cur e fz hB=>⟨cur,hB,rfl⟩⟩
     have M2:ch nm N S0 w0 L0 fe a w (gX ⟨.h m,j,[]⟩ (gX pl L)):=by
      refine ⟨O1.mid.rel.aql (fun B hB=>pB hB) (fun B q o hq hL=>sx hL (zP hq)) (fun B r o=>xj) (fun B l hB=>Yz hB) (YA O1.mid.rel.eM),O1.mid.di.trans ZO,O1.mid.mono.trans (YB _),?_,O1.mid.heap,O1.mid.vT,fun B r o hB=>xj.2 (O1.mid.boxes B r o hB)⟩;intro B q o hq hL;exact O1.mid.rows B q o hq (BQ hL).1
     refine ⟨_,⟨M2,O1.di.trans ZO,?_,?_⟩,?_⟩
     ·intro B q o hq hK hL;exact sx (O1.CG B q o hq trivial hL) (fun hu=>hK hu.key)
     ·intro B q o hq xD hL;exact O1.yi B q o hq xD (BQ hL).1
     ·refine .d (.plain ?_);rcases hA with ⟨rfl,a0,rfl⟩ | ⟨B,o,cap,cur,e,fz,n0,val,rfl,bf,hL,hB,cU,fO,dN,dI,cr,hd,ec⟩
      ·simp only [aV];exact .mL
      ·have fT:gX ⟨.h m,j,[]⟩ (gX pl L) B=some .bh:=by
        rcases hL with hL | hL
        ·exact pB (xk hL (bE.refl _))
        ·by_cases hu:bE pl ⟨.h m,j,[]⟩
         ·exact pB (xk hL hu)
         ·exact xk (sx hL hu) (bE.refl _)
       rw [←Av rows];cases vM:rows with
       | nil=>simp only [aV,jE];exact .mL
       | cons r0 t0=>
        rw [←vM];refine .pl (cur:=cur) (e:=e) (fz:=fz) val (by rw [vM];simp [aV]) bf (by rw [Av];exact dN) fT hB ?_ ?_ ?_
        ·intro r eV;rw [Dm] at eV;obtain ⟨r1,h1,rfl⟩:=iD.1 eV;simpa using fO r1 h1
        ·intro i c x hx;rw [Br] at hx;cases hy:cellOf rows i c with
         | none=>simp [hy] at hx
         | some y=>exact cr i c y hy
        ·intro i c x hx;rw [Br] at hx;cases hy:cellOf rows i c with
         | none=>simp [hy] at hx
         | some y=>
          simp only [hy,ff,aj] at hx;subst hx;refine br.freeze (fun q=>bE pl q∨bE ⟨.h m,j,[]⟩ q) (fun q i c h=>Or.imp (fun h=>h.sub i c) (fun h=>h.sub i c) h) (fun B hB=>⟨pB (pB hB),rfl⟩) ?_ (hd i c y hy) ?_
          ·intro B q o hq hL;refine ⟨?_,rfl⟩;by_cases vL:bE pl q
           ·exact pB (xk hL vL)
           ·exact xk (sx hL vL) (hq.resolve_left vL)
          ·split
           ·exact .inl ((bE.refl pl).sub i c)
           ·exact .inr ((bE.refl _).sub i c)
 | eD=>simp [st] at hr
 | bt=>simp [st] at hr
 | mp=>simp [st] at hr
 | gj=>simp [st] at hr
 | dead=>simp [st] at hr
 | d x=>exact yG _ rfl hc (by simp) hr
 | ptr r g c=>exact yG _ rfl hc (by simp) hr
 | pp cells=>exact yG _ rfl hc (by simp) hr
 | fn f b d=>exact yG _ rfl hc (by simp) hr
 | cE=>exact yG _ rfl hc (by simp) hr
 | eX=>exact yG _ rfl hc (by simp) hr
 | fR=>exact yG _ rfl hc (by simp) hr
 | fj=>exact yG _ rfl hc (by simp) hr
end
end
section
section
variable {nm:FuncId→Option Nat} {N:Nat} {S0:St} {w0:World} {L0:aw} {ws:List Wr} {a:Act} {w:World} {L:aw}
theorem iS.rep {γ0 γ:Key→Nat} (hs:Step w0 w L0 L γ0 γ) {m j:Nat} {c:C} {v:Value} (h:iS nm w0 L0 γ0 w L γ m j c v):aF nm w L γ (.h m) j c v:=by
 cases c with
 | view=>exact aF.rP hs h rfl _ _
 | _=>exact h
theorem mW.rep {γ0 γ:Key→Nat} (hs:Step w0 w L0 L γ0 γ) {m:Nat} {x:V} {v:Value} (h:mW nm w0 L0 γ0 w L γ m x v):bD nm w L γ (.h m) x v:=by
 cases x with
 | one c=>exact .one (iS.rep hs h)
 | agg cs=>
  obtain ⟨vs,rfl,hl,hc⟩:=h;exact .agg hl fun j c u h1 h2=>(hc j c u h1 h2).rep hs
 | aq vs=>exact h
theorem MF {m:Nat}:∀(cs:List C) {ws:List Wr} {L:aw} (M:ch nm N S0 w0 L0 ws a w L) (j0:Nat) (vs:Nat→Value)
  (hc:∀j c,cs[j]? = some c→iS nm w0 L0 S0.γ w L (S0.ah ws).γ m (j0+j) c (vs (j0+j))) {r:List C×List Wr} (hr:(lI ws cs).run S0=some r),
  ∃L',Out nm N S0 w0 L0 ws r.2 a w L L' (fun q=>¬ (q.k = .h m∧j0≤q.j)) m∧r.1.length=cs.length∧
   ∀j c,r.1[j]? = some c→aF nm w L' (S0.ah r.2).γ (.h m) (j0+j) c (vs (j0+j))
 | [],ws,L,M,j0,vs,hc,r,hr=>by
  simp only [lI,Q.run_pure,aj] at hr;subst hr;exact ⟨L,Out.refl M _ m,rfl,fun j c h=>by simp at h⟩
 | c::cs,ws,L,M,j0,vs,hc,r,hr=>by
  simp only [lI,Q.run_bind] at hr;cases h1:(st ws c).run S0 with
  | none=>simp [h1] at hr
  | some r1=>
   obtain ⟨c1,fe⟩:=r1;simp only [h1,Option.bind_some,Q.run_bind] at hr;cases h2:(lI fe cs).run S0 with
   | none=>simp [h2] at hr
   | some r2=>
    obtain ⟨Bx,fA⟩:=r2;simp only [h2,Option.bind_some,Q.run_pure,aj] at hr;subst hr;obtain ⟨L1,O1,R1⟩:=uP M (by simpa using hc 0 c rfl) h1
    obtain ⟨L2, O2, hl, R2⟩ := MF cs O1.mid (j0 + 1) vs (fun j c h => by
      have := hc (j + 1) c (by simpa using h)
      have := this.keep O1.keep (fun p => by simp)
      rwa [show j0 + 1 + j = j0 + (j + 1) by omega]) h2
    refine ⟨L2,(O1.weaken ?_).trans (O2.weaken ?_),by simp [hl],?_⟩
    ·intro q hq h;exact hq ⟨h.1,by omega⟩
    ·intro q hq h;exact hq ⟨h.1,by omega⟩
    ·intro j c hj;cases j with
     | zero=>
      simp only [kE,aj] at hj;subst hj;exact R1.keep O2.keep (fun p=>by simp)
     | succ j=>
      have:=R2 j c (by simpa using hj);rwa [show j0+1+j=j0+(j+1) by omega] at this
structure oq (nm:FuncId→Option Nat) (N:Nat) (S:St) (w0:World) (L0:aw) (a:Act) (w:World) (L:aw):Prop where
 rel:Rel nm N S a w L
 mono:df w0 w L0 L
 ya:eI L
theorem ch.done (M:ch nm N S0 w0 L0 ws a w L) {m d:Nat} {x:V} {v:Value} (hd:d < N) (hv:bD nm w L (S0.ah ws).γ (.h m) x v) :
  ∃L',oq nm N (S0.ah ({ k:=.s d,v:=x } :: ws)) w0 L0 (a.put (some d) v) w L':=by
 obtain ⟨L',h1,h2,h3,_⟩:=M.rel.adC hd hv;exact ⟨L',h1,M.mono.trans h3,h2⟩
end
end
section
section
variable {nm:FuncId→Option Nat} {N:Nat} {S0:St} {w0:World} {L0:aw} {ws:List Wr} {a:Act} {w:World} {L:aw}
theorem Out.aof (M:ch nm N S0 w0 L0 ws a w L) {e8:List Wr} {L':aw} {K:Place→Prop} {m:Nat}
  (qy:Rel nm N (S0.ah e8) a w L') (ra:∀k,(S0.ah ws).γ k≤(S0.ah e8).γ k)
  (fT:∀B,L B=some .bh→L' B=some .bh) (vH:∀B,L B=none→L' B=none)
  (gY:∀B r o,L B=some (.box r o)→L' B=some (.box r o))
  (cL:∀B q o,q.k.aT=true→(S0.ah e8).γ q.k=(S0.ah ws).γ q.k→L B=some (.row q o)→L' B=some (.row q o))
  (vu:∀B q o,q.k.aT=true→L' B=some (.row q o)→L B=some (.row q o))
  (hK:∀B q o,q.k.aT=false→K q→L B=some (.row q o)→L' B=some (.row q o))
  (hm:∀B q o,q.k.aT=false→q.k≠.h m→L' B=some (.row q o)→L B=some (.row q o)) :
  Out nm N S0 w0 L0 ws e8 a w L L' K m:=by
 have bA:Step w w L L' (S0.ah ws).γ (S0.ah e8).γ:=
  ⟨fun B hB=>⟨fT B hB,rfl⟩,ra,fun B q o hq hγ hL=>⟨cL B q o hq hγ hL,fun cur e fz hB=>⟨cur,hB,rfl⟩⟩,fun _ _ _ _ _ _ _=>rfl,fun B r o _ hB=>gY B r o hB⟩
 refine ⟨⟨qy,M.di.trans bA,M.mono.trans ⟨rfl,rfl,rfl,bV _,fun B hB=>⟨fT B hB,rfl⟩,fun B _ hB=>⟨vH B hB,rfl⟩,fun B i o hB=>gY B _ o hB⟩,?_,M.heap,M.vT,fun B r o hB=>gY B r o (M.boxes B r o hB)⟩,bA,hK,hm⟩;intro B q o hq hL;exact M.rows B q o hq (vu B q o hq hL)
theorem Mp {f:Place→Option Place} {B:Nat} (h:L B=none):cI f L B=none:=by simp [cI,h]
theorem akk {k:Key} (hk:k.aT=true):(∃i,k = .s i)∨∃r c,k = .b r c:=by
 cases k with
 | s i=>exact .inl ⟨i,rfl⟩
 | b r c=>exact .inr ⟨r,c,rfl⟩
 | _=>simp [Key.aT] at hk
def Place.rest (pl q:Place):List (Nat×Nat):=q.p.drop pl.p.length
theorem Place.Ms (pl:Place) (r:List (Nat×Nat)):pl.rest (pl.app r)=r:=by simp [Place.rest,Place.app]
open Classical in
noncomputable def jf (pl:Place) (m j:Nat) (jN:List (Nat×Nat)→Bool):Place→Option Place:=fun q=>
 if bE pl q then (if jN (pl.rest q)=true then some ⟨.h m,j,pl.rest q⟩ else none)
 else if q.k = .h m∧q.j=j then (if jN q.p=true then none else some q) else some q
theorem bE.eq {pl q:Place} (h:bE pl q):q=pl.app (pl.rest q):=by
 obtain ⟨r,rfl⟩:=h;rw [Place.Ms]
theorem Ex {pl:Place} {m j:Nat} {jN:List (Nat×Nat)→Bool} {q:Place} (h1:¬ bE pl q) (h2:¬ (q.k = .h m∧q.j=j)):jf pl m j jN q=some q:=by
 unfold jf;rw [aB h1,aB h2]
theorem Is {pl:Place} {m j:Nat} {jN:List (Nat×Nat)→Bool} {q:Place} (h1:bE pl q) (h2:jN (pl.rest q)=true):jf pl m j jN q=some ⟨.h m,j,pl.rest q⟩:=by
 unfold jf;rw [aJ h1,aJ h2]
theorem Xd {pl:Place} {m j:Nat} {jN:List (Nat×Nat)→Bool} {q:Place} (h1:¬ bE pl q) (h2:q.k = .h m∧q.j=j) (h3:jN q.p=false):jf pl m j jN q=some q:=by
 unfold jf;rw [aB h1,aJ h2,aB (by simp [h3])]
theorem Oz {pl:Place} {m j:Nat} {jN:List (Nat×Nat)→Bool} {q t:Place} (h:jf pl m j jN q=some t) :
  (bE pl q∧jN (pl.rest q)=true∧t=⟨.h m,j,pl.rest q⟩)∨(¬ bE pl q∧(q.k = .h m∧q.j=j)∧jN q.p=false∧t=q)∨(¬ bE pl q∧¬ (q.k = .h m∧q.j=j)∧t=q):=by
 unfold jf at h;by_cases hu:bE pl q
 ·rw [aJ hu] at h;by_cases hs:jN (pl.rest q)=true
  ·rw [aJ hs] at h;exact .inl ⟨hu,hs,by simpa using h.symm⟩
  ·rw [aB hs] at h;cases h
 ·rw [aB hu] at h;by_cases hm:q.k = .h m∧q.j=j
  ·rw [aJ hm] at h;by_cases hs:jN q.p=true
   ·rw [aJ hs] at h;cases h
   ·rw [aB hs] at h;exact .inr (.inl ⟨hu,hm,by simpa using hs,by simpa using h.symm⟩)
  ·rw [aB hm] at h;exact .inr (.inr ⟨hu,hm,by simpa using h.symm⟩)
theorem afI (pl:Place) (m j:Nat) (jN:List (Nat×Nat)→Bool) {q q' t:Place} (h1:jf pl m j jN q=some t) (h2:jf pl m j jN q'=some t):q=q':=by
 rcases Oz h1 with ⟨a1,a2,a3⟩ | ⟨a1,a2,a3,a4⟩ | ⟨a1,a2,a3⟩<;>rcases Oz h2 with ⟨b1,b2,b3⟩ | ⟨b1,b2,b3,b4⟩ | ⟨b1,b2,b3⟩
 ·rw [a3] at b3;simp only [Place.mk.injEq,ll] at b3;rw [a1.eq,b1.eq,b3]
 ·rw [←b4,a3] at b3;simp only at b3;rw [a2] at b3;cases b3
 ·exact absurd (by rw [←b3,a3];exact ⟨rfl,rfl⟩) b2
 ·rw [←a4,b3] at a3;simp only at a3;rw [b2] at a3;cases a3
 ·rw [←a4,←b4]
 ·exact absurd (by rw [←b3,a4];exact a2) b2
 ·exact absurd (by rw [←a3,b3];exact ⟨rfl,rfl⟩) a2
 ·exact absurd (by rw [←a3,b4];exact b2) a2
 ·rw [←a3,←b3]
theorem Xc {pl:Place} {m j:Nat} {jN:List (Nat×Nat)→Bool} {q t:Place} (h1:jf pl m j jN q=some t) (h2:¬ (t.k = .h m∧t.j=j)):q=t∧¬ bE pl q:=by
 rcases Oz h1 with ⟨a1,a2,a3⟩ | ⟨a1,a2,a3,a4⟩ | ⟨a1,a2,a3⟩
 ·exact absurd (by rw [a3];exact ⟨rfl,rfl⟩) h2
 ·exact absurd (by rw [a4];exact a2) h2
 ·exact ⟨a3.symm,a1⟩
theorem ch.EZ (M:ch nm N S0 w0 L0 ws a w L) {m j:Nat} {pl:Place} (hk:pl.k.aT=true) {sz:Nat} {rows:List (List D)} {x:D} (b:List (Nat×Nat)→Bool)
  (hE:((S0.ah ws).E pl.k).cells[pl.j]? = some (.d x)) (hn:ew x pl.p=some (.sl .own sz rows)) :
  Out nm N S0 w0 L0 ws (nA ws pl.k (sR ((S0.ah ws).E pl.k) pl x)) a w L (cI (jf pl m j b) L) (fun q=>¬ (q.k = .h m∧q.j=j)) m:=by
 have arz:pl.k≠.h m:=fun e=>by rw [e] at hk;simp [Key.aT] at hk
 have oO:me (cI (jf pl m j b) L):=G8 M.rel.eM (fun q q' t B B' o o' h1 h2 _ _=>afI pl m j b h1 h2);have Fy:∀{q:Place},q.k.aT=true→¬ (q.k = .h m∧q.j=j):=fun hq h=>by rw [h.1] at hq;simp [Key.aT] at hq
 have qy:Rel nm N ((S0.ah ws).wr { k:=pl.k,v:=sR ((S0.ah ws).E pl.k) pl x }) a w (cI (jf pl m j b) L):=by
  refine M.rel.adj (akk hk) hE (by simp) (fun B hB=>jM.2 hB) ?_ ?_ (fun B r o=>jz) (fun B l hB=>G7 hB) oO ?_
  ·intro B q o hq FE hL;exact gL hL (Ex (fun h=>hq h.key.1) (Fy FE))
  ·intro B q o hq FD hL;exact gL hL (Ex (fun h=>FD h.key.2) (Fy (by rw [hq];exact hk)))
  ·intro u hu;cases hu with
   | d hd=>
    refine .d ?_;have B6:(⟨pl.k,pl.j,[]⟩:Place).app pl.p=pl:=Place.Bg pl;refine br.subst pl.p hd hn (fun B hB=>⟨jM.2 hB,rfl⟩) ?_ ?_ rfl
    ·intro B' q o' h1 h2 h3;rw [B6] at h2;exact gL h3 (Ex h2 (Fy (by rw [h1.key.1];exact hk)))
    ·intro u' jv;exact .plain (.dead jv.wm)
 refine Out.aof M qy (fun k=>St.p7 _ _ k) (fun B hB=>jM.2 hB) (fun B hB=>Mp hB) (fun B r o hB=>jz.2 hB) ?_ ?_ ?_ ?_
 ·intro B q o hq hγ hL;have:q.k≠pl.k:=by
   intro e;rw [e] at hγ;simp only [nA,St.ah,D4,bump,bW] at hγ;omega
  exact gL hL (Ex (fun h=>this h.key.1) (Fy hq))
 ·intro B q o hq hL;obtain ⟨q0,h1,h2⟩:=oY hL;have:=(Xc h2 (Fy hq)).1;rwa [this] at h1
 ·intro B q o hq hK hL;refine gL hL (Ex (fun h=>?_) hK);rw [h.key.1,hk] at hq;cases hq
 ·intro B q o hq xD hL;obtain ⟨q0,h1,h2⟩:=oY hL;have:=(Xc h2 (fun h=>xD h.1)).1;rwa [this] at h1
theorem bE.Tq {pl q:Place} (h:bE pl q) (i c:Nat):pl.rest (q.sub i c)=pl.rest q++[(i,c)]:=by
 obtain ⟨r,rfl⟩:=h;rw [←Place.Eh,Place.Ms,Place.Ms]
theorem AF (pl:Place):pl.rest pl=[]:=by have:=Place.Ms pl [];rwa [Place.Bf] at this
theorem acR (pl:Place) (i c:Nat):pl.rest (pl.sub i c)=[(i,c)]:=by rw [(bE.refl pl).Tq,AF];rfl
def kz (b:Bool) (n0:Nat):List (Nat×Nat)→Bool
 | []=>b
 | (i,_)::_=>decide (i < n0)
theorem abp {pl:Place} {m j:Nat} {b:Bool} {n0 i c:Nat} {x:D} {u:Value} (hi:i < n0) (h:br w L (pl.sub i c) x u) :
  br w (cI (jf pl m j (kz b n0)) L) ((⟨.h m,j,[]⟩:Place).sub i c) x u:=by
 have:=br.move (w':=w) (L':=cI (jf pl m j (kz b n0)) L) (fun q=>⟨.h m,j,pl.rest q⟩) (fun q=>bE pl q∧∃r,pl.rest q=(i,c)::r)
  (fun q i' c' h=>⟨h.1.sub i' c',by obtain ⟨r,hr⟩:=h.2;rw [h.1.Tq,hr];exact ⟨_,rfl⟩⟩)
  (fun q i c h=>by rw [h.1.Tq];rfl) (fun B hB=>⟨jM.2 hB,rfl⟩)
  (fun B q o hq hL=>⟨gL hL (Is hq.1 (by obtain ⟨r,hr⟩:=hq.2;rw [hr];simp [kz,hi])),rfl⟩) h ⟨(bE.refl pl).sub i c,[],acR pl i c⟩
 rwa [acR] at this
theorem apY {pl:Place} (hp:pl.k.aT=true) {m j:Nat} {b:Bool} {n0 i c:Nat} {x:D} {u:Value} (hi:¬ i < n0) (h:br w L ((⟨.h m,j,[]⟩:Place).sub i c) x u) :
  br w (cI (jf pl m j (kz b n0)) L) ((⟨.h m,j,[]⟩:Place).sub i c) x u:=by
 refine br.move (w':=w) (L':=cI (jf pl m j (kz b n0)) L) id (fun q=>(q.k = .h m∧q.j=j)∧∃r,q.p=(i,c)::r)
  (fun q i' c' h=>⟨h.1,by obtain ⟨r,hr⟩:=h.2;exact ⟨r++[(i',c')],by simp [Place.sub,hr]⟩⟩)
  (fun _ _ _ _=>rfl) (fun B hB=>⟨jM.2 hB,rfl⟩)
  (fun B q o hq hL=>⟨gL hL (Xd (fun hu=>?_) hq.1 (by obtain ⟨r,hr⟩:=hq.2;rw [hr];simp [kz,hi])),rfl⟩) h ⟨⟨rfl,rfl⟩,[],rfl⟩
 rw [←hu.key.1,hq.1.1] at hp;simp [Key.aT] at hp
theorem ch.an3 (M:ch nm N S0 w0 L0 ws a w L) {m j:Nat} {pl:Place} (hk:pl.k.aT=true) {sz:Nat} {rows:List (List D)} {v:Value} {x:D}
  (hE:((S0.ah ws).E pl.k).cells[pl.j]? = some (.d x)) (hn:ew x pl.p=some (.sl .own sz rows)) (hV:A' w0 L0 pl sz 0 rows.length v)
  (hr:rows≠[]) :
  ∃L',Out nm N S0 w0 L0 ws (nA ws pl.k (sR ((S0.ah ws).E pl.k) pl x)) a w L L' (fun q=>¬ (q.k = .h m∧q.j=j)) m∧
   aF nm w L' (S0.ah (nA ws pl.k (sR ((S0.ah ws).E pl.k) pl x))).γ (.h m) j (.d (.sl .own sz rows)) v:=by
 refine ⟨_,M.EZ hk (kz true rows.length) hE hn,.d ?_⟩;obtain ⟨u,hu⟩:=M.Bi hk hE hn;rcases hV with ⟨h0,a0,rfl⟩ | ⟨B,o,cap,cur,e,fz,rfl,bf,qd,hB0,cU,hle,dI,_⟩
 ·exact absurd (pZ.1 h0) hr
 ·have hL:L B=some (.row pl o):=by
   rcases hu.nX with ⟨h1,_⟩ | ⟨B',o',ze,dU,e',ub,val,_,_,fh,_⟩
   ·exact absurd h1 hr
   ·have YR:=M.rows B' pl o' hk fh;obtain rfl:=M.vT B' B pl o' o YR qd;obtain rfl:o'=o:=by rw [YR] at qd;simpa using qd
    exact fh
  have hB:w.heap[B]? = some (.cells cur e fz):=(M.heap B _ qd).trans hB0;simp only [Vk,jn] at dI ⊢;have oI:cI (jf pl m j (kz true rows.length)) L B=some (.row ⟨.h m,j,[]⟩ o):=by
   have:=gL hL (Is (m:=m) (j:=j) (jN:=kz true rows.length) (bE.refl pl) (by rw [AF];rfl));rwa [AF] at this
  rcases hu.nX with ⟨rfl,_⟩ | ⟨B',o',ze,dU,e',ub,val,_,_,fh,dD,_,fO,P3,QP,cr,hr,ec⟩
  ·exact absurd rfl hr
  ·obtain rfl:=M.rel.eM B' B pl o' o fh hL;obtain rfl:o'=o:=by rw [fh] at hL;simpa using hL
   obtain ⟨rfl,rfl,rfl⟩:dU=cur∧e'=e∧ub=fz:=by rw [dD] at hB;simpa using hB
   refine .own val bf oI hB cU fO hle dI cr ?_ ec;intro i c x hx;exact abp (ox fO hx).1 (hr i c x hx)
theorem TQ (M:ch nm N S0 w0 L0 ws a w L) {m j:Nat} {pl:Place} {g aa sz:Nat} {rows:List (List D)} {v:Value}
  (hc:iS nm w0 L0 S0.γ w L (S0.ah ws).γ m j (.c8 pl g aa sz rows) v) {r:C×List Wr}
  (hr:(settle ws pl g aa sz rows).run S0=some r) :
  ∃L',Out nm N S0 w0 L0 ws r.2 a w L L' (fun q=>¬ (q.k = .h m∧q.j=j)) m∧aF nm w L' (S0.ah r.2).γ (.h m) j r.1 v:=by
 simp only [settle,Q.run_bind] at hr;cases ho:(jw ws pl g sz).run S0 with
 | none=>simp [ho] at hr
 | some e=>
  obtain ⟨e,x,dJ⟩:=e;obtain ⟨rfl,hg,hE,hn⟩:=uF ho;simp only [ho,Option.bind_some,Q.run_bind,Q.uL,Q.lH] at hr;cases qn:((S0.get (.a pl.k)).g==aa&&fresh ws pl.k) with
  | false=>simp [qn] at hr
  | true=>
   simp only [qn,bW,Option.bind_some,Q.run_pure,aj] at hr;subst hr;simp only [bK,eW] at qn;obtain ⟨g1,g2,_⟩:=I2 (S:=S0) qn.2;cases hc with
   | c8 hv hh Qj ajl hV=>
    have hA:=hV (by rw [g1];exact hg) (by rw [g2];exact qn.1.symm);rcases hA with ⟨rfl,a0,rfl⟩ | ⟨B,o,cap,cur,e,fz,n0,val,rfl,bf,hL,hB,cU,fO,dN,dI,cr,hd,ec⟩
    ·exact ⟨_,M.EZ hh (kz true 0) hE hn,.d .jl⟩
    ·have kQ:∀(b:Bool) i c x,cellOf rows i c=some x→br w (cI (jf pl m j (kz b n0)) L) ((⟨.h m,j,[]⟩:Place).sub i c) x (val i c):=by
      intro b i c x hx;have h0:=hd i c x hx;by_cases hi:i < n0
      ·rw [aJ hi] at h0;exact abp hi h0
      ·rw [aB hi] at h0;exact apY hh hi h0
     rcases hL with hL | hL
     ·have oI:cI (jf pl m j (kz true n0)) L B=some (.row ⟨.h m,j,[]⟩ o):=by
       have:=gL hL (Is (m:=m) (j:=j) (jN:=kz true n0) (bE.refl pl) (by rw [AF];rfl));rwa [AF] at this
      exact ⟨_,M.EZ hh (kz true n0) hE hn,.d (.own val bf oI hB cU fO dN dI cr (kQ true) ec)⟩
     ·have oI:cI (jf pl m j (kz false n0)) L B=some (.row ⟨.h m,j,[]⟩ o):=by
       refine gL hL (Xd (fun hu=>?_) ⟨rfl,rfl⟩ rfl);have:=hu.key.1;simp only at this;rw [←this] at hh;simp [Key.aT] at hh
      exact ⟨_,M.EZ hh (kz false n0) hE hn,.d (.own val bf oI hB cU fO dN dI cr (kQ false) ec)⟩
theorem T4 (M:ch nm N S0 w0 L0 ws a w L) {m j:Nat} {P:Place} {c:C} {v:Value} (hc:iS nm w0 L0 S0.γ w L (S0.ah ws).γ m j c v) {r:C×List Wr}
  (hr:(pa ws P c).run S0=some r) :
  ∃L',Out nm N S0 w0 L0 ws r.2 a w L L' (fun q=>¬ (q.k = .h m∧q.j=j)) m∧aF nm w L' (S0.ah r.2).γ (.h m) j r.1 v:=by
 cases c with
 | c8 pl g aa sz rows=>
  simp only [pa] at hr;split at hr
  ·exact TQ M hc hr
  ·exact uP M hc hr
 | _=>exact uP M hc hr
theorem T7 (M:ch nm N S0 w0 L0 ws a w L) {m j:Nat} {P:Place} {c:C} {v:Value} (hc:iS nm w0 L0 S0.γ w L (S0.ah ws).γ m j c v) {r:C×List Wr}
  (hr:(tp ws P c).run S0=some r) :
  ∃L',Out nm N S0 w0 L0 ws r.2 a w L L' (fun q=>¬ (q.k = .h m∧q.j=j)) m∧aF nm w L' (S0.ah r.2).γ (.h m) j r.1 v:=by
 cases c with
 | c8 pl g aa sz rows=>
  simp only [tp] at hr;split at hr
  ·exact TQ M hc hr
  ·exact T4 M hc hr
 | view pl g sz off len=>
  simp only [tp,Q.run_bind] at hr;cases ho:(jw ws pl g sz).run S0 with
  | none=>simp [ho] at hr
  | some e=>
   obtain ⟨e,x,rows⟩:=e;obtain ⟨rfl,hg,hE,hn⟩:=uF ho;simp only [ho,Option.bind_some,Q.run_ite,Q.MC] at hr;split at hr
   ·rename_i iI;simp only [bK,eW,wS] at iI;obtain ⟨_,⟨h1,h2⟩,h3⟩:=iI;simp only [Q.run_pure,aj] at hr;subst hr;cases hc with
    | view hv hh Qj hV=>
     refine M.an3 hh hE hn (by have:=hV hg;rwa [h1,h2] at this) ?_;intro he;simp [he] at h3
   ·exact uP M hc hr
 | _=>exact uP M hc hr
end
end
end Go.ax
