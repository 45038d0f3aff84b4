/- Part 1 of the proof: the texts A1 A2 A3 A4 A5. -/
import Derived.Calls
import Derived.Orders
import Derived.Laws.World
import Derived.Laws.Sem
import Derived.Laws.Cells
import Derived.Laws.Entries
import Derived.Laws.Strings
import Derived.Laws.Concat
import Derived.Laws.Tables
import Derived.Great.BuildSlice
import Derived.Laws.BytesString
import Derived.Laws.AppendOwn
import Derived.Laws.Append
set_option linter.unusedSimpArgs false
set_option linter.unusedVariables false
namespace Tdoc
open Go
inductive Dat where
 | int (k:IntKind) (n:Int)
 | bool (b:Bool)
 | str (s:List UInt8)
 | sl (sz:Nat) (es:List (List Dat))
inductive Tok where
 | none
 | full
 | right (i:Nat)
inductive AV where
 | d (x:Dat)
 | sl (sz:Nat) (es:List (List Dat)) (tok:Tok)
 | nils
 | ptr (i off:Nat)
 | iptr (cs:List Dat)
 | nilp
 | row (i off n cap:Nat)
 | bm (i n:Nat)
 | bp (i n k:Nat)
 | fn (f:Fn) (first captured:List AV)
 | nilf
 | mp (i:Nat)
 | pv (i b:Nat)
 | pb (b:Nat)
 | rx (i off n:Nat)
 | ifc (nil:Bool)
 | ifa (t:Nat) (v:AV)
 | agg (cs:List AV)
 | tup (vs:List AV)
 | gd (b:Bool) (v:AV)
 | any
abbrev AV.I (n:Int):AV:=.d (.int .i64 n)
inductive AObj where
 | row (cells:List AV)
 | buf (sz n:Nat) (cells:List AV)
 | right (sz n:Nat)
 | dead
 | room
 | opq (R:(Nat→Option Obj)→Nat→List Nat→Prop)
def vIc:Bool→Value→Bool
 | true,.nilIface=>true
 | false,.iface _ _=>true
 | _,_=>false
def qHy:Value→Bool
 | .agg _ | .tuple _=>false
 | _=>true
structure Gh where
 imm:Addr→Option Value
 loc:Nat→Option Nat
 rt:Nat→Nat→Option (Option Addr×Nat)
 own:Nat→Option Nat
structure Gh.le (G G':Gh):Prop where
 imm:∀ a v,G.imm a=some v→G'.imm a=some v
 loc:∀ i b,G.loc i=some b→G'.loc i=some b
 rt:∀ i n x,G.rt i n=some x→G'.rt i n=some x
 own:∀ b i,G.own b=some i→G'.own b=some i
theorem Gh.le.refl (G:Gh):G.le G:=⟨fun _ _ h=>h,fun _ _ h=>h,fun _ _ _ h=>h,fun _ _ h=>h⟩
theorem Gh.le.trans {A B C:Gh} (h:A.le B) (k:B.le C):A.le C :=
 ⟨fun a v x=>k.imm a v (h.imm a v x),fun i b x=>k.loc i b (h.loc i b x),fun i n y x=>k.rt i n y (h.rt i n y x),fun b i x=>k.own b i (h.own b i x)⟩
inductive RepD (m:Addr→Option Value):Dat→Value→Prop
 | int (k:IntKind) (n:Int):RepD m (.int k n) (.int k n)
 | bool (b:Bool):RepD m (.bool b) (.bool b)
 | str (s:List UInt8):RepD m (.str s) (.string ⟨s.toArray⟩)
 | nil (sz:Nat):RepD m (.sl sz []) (.slice none 0 0)
 | sl (sz:Nat) (es:List (List Dat)) (a:Addr) (cap:Nat) (vs:Nat→Value):(0 < cap→a.spot=none)→es.length≤cap→(∀ e,e∈es→e.length=sz) →
   (∀ (i:Nat) (e:List Dat) (j:Nat) (d:Dat),es[i]?=some e→e[j]?=some d→m (a.add (i*sz+j))=some (vs (i*sz+j))) →
   (∀ (i:Nat) (e:List Dat) (j:Nat) (d:Dat),es[i]?=some e→e[j]?=some d→RepD m d (vs (i*sz+j))) →
   RepD m (.sl sz es) (.slice (some a) es.length cap)
theorem RepD.mono {m m':Addr→Option Value} (h:∀ a v,m a=some v→m' a=some v) {x:Dat} {v:Value} (r:RepD m x v):RepD m' x v:=by
 induction r with
 | int k n=>exact .int k n
 | bool b=>exact .bool b
 | str s=>exact .str s
 | nil sz=>exact .nil sz
 | sl sz es a cap vs h1 h2 h3 h4 _ ih=>exact .sl sz es a cap vs h1 h2 h3 (fun i e j d he hd=>h _ _ (h4 i e j d he hd)) ih
def qHd:Nat→Option (List Dat):=fun g=>match g with | 9=>some [.int .u32 1116352408,.int .u32 1899447441,.int .u32 3049323471,.int .u32 3921009573,.int .u32 961987163,.int .u32 1508970993,.int .u32 2453635748,.int .u32 2870763221,.int .u32 3624381080,.int .u32 310598401,.int .u32 607225278,.int .u32 1426881987,.int .u32 1925078388,.int .u32 2162078206,.int .u32 2614888103,.int .u32 3248222580,.int .u32 3835390401,.int .u32 4022224774,.int .u32 264347078,.int .u32 604807628,.int .u32 770255983,.int .u32 1249150122,.int .u32 1555081692,.int .u32 1996064986,.int .u32 2554220882,.int .u32 2821834349,.int .u32 2952996808,.int .u32 3210313671,.int .u32 3336571891,.int .u32 3584528711,.int .u32 113926993,.int .u32 338241895,.int .u32 666307205,.int .u32 773529912,.int .u32 1294757372,.int .u32 1396182291,.int .u32 1695183700,.int .u32 1986661051,.int .u32 2177026350,.int .u32 2456956037,.int .u32 2730485921,.int .u32 2820302411,.int .u32 3259730800,.int .u32 3345764771,.int .u32 3516065817,.int .u32 3600352804,.int .u32 4094571909,.int .u32 275423344,.int .u32 430227734,.int .u32 506948616,.int .u32 659060556,.int .u32 883997877,.int .u32 958139571,.int .u32 1322822218,.int .u32 1537002063,.int .u32 1747873779,.int .u32 1955562222,.int .u32 2024104815,.int .u32 2227730452,.int .u32 2361852424,.int .u32 2428436474,.int .u32 2756734187,.int .u32 3204031479,.int .u32 3329325298] | _=>none
def qIq:Nat→Option (Obj→Prop):=fun g=>match g with
 | 0=>some fun o=>∃ (m:Int) (t:TypeId) (f:Nat×Nat),o=.cells #[.int .i64 m] t f
 | 4=>some fun o=>∃ (v:Value) (t:TypeId) (f:Nat×Nat),o=.cells #[v] t f∧(v=.nilIface∨∃ te pe,v=.iface te pe)
 | 5=>some fun o=>∃ (v:Value) (t:TypeId) (f:Nat×Nat),o=.cells #[v] t f∧(v=.nilIface∨∃ te pe,v=.iface te pe)
 | 3=>some fun o=>∃ (t:TypeId) (f:Nat×Nat),o=.cells (((List.range 20).map fun i=>Value.int .u64 ((10 ^ i:Nat):Int)).toArray) t f
 | _=>none
def TabI (m:Addr→Option Value):Prop :=
 ∀ (g:Nat) (cs:List Dat),qHd g=some cs→∃ vs:Nat→Value,∀ (j:Nat) (d:Dat),cs[j]?=some d→m ⟨g,j,none⟩=some (vs j)∧RepD m d (vs j)
theorem TabI.mono {m m':Addr→Option Value} (h:∀ a v,m a=some v→m' a=some v) (r:TabI m):TabI m':=fun g cs hg=>by
 obtain ⟨vs,hv⟩:=r g cs hg
 exact ⟨vs,fun j d hd=>⟨h _ _ (hv j d hd).1,(hv j d hd).2.mono h⟩⟩
def TabB (w:World) (own:Nat→Option Nat):Prop :=
 ∀ (g:Nat) (p:Obj→Prop),qIq g=some p→own g=none∧∃ o,w.heap[g]?=some o∧p o
def TabOk (w:World) (G:Gh):Prop:=TabI G.imm∧TabB w G.own
theorem RepD.one {m:Addr→Option Value} {x:Dat} {v:Value} (r:RepD m x v):qHy v=true:=by cases r <;> rfl
def TokOk (G:Gh) (tok:Tok) (n:Nat) (v:Value):Prop :=
 match tok with
 | .none=>True
 | .full=>∃ a,v=.slice a n n∧∀ p,a=some p→p.spot=none
 | .right i=>∃ a cap,v=.slice a n cap∧G.rt i n=some (a,cap)
theorem TokOk.mono {G G':Gh} (h:G.le G') {tok:Tok} {n:Nat} {v:Value} (r:TokOk G tok n v):TokOk G' tok n v:=by
 cases tok with
 | none=>trivial
 | full=>exact r
 | right i=>obtain ⟨a,cap,hv,hr⟩:=r;exact ⟨a,cap,hv,h.rt _ _ _ hr⟩
inductive RepA (G:Gh):AV→Value→Prop
 | d {x:Dat} {v:Value}:RepD G.imm x v→RepA G (.d x) v
 | sl {sz:Nat} {es:List (List Dat)} {tok:Tok} {v:Value}:RepD G.imm (.sl sz es) v→TokOk G tok es.length v→RepA G (.sl sz es tok) v
 | nils:RepA G .nils (.slice none 0 0)
 | ptr {i b:Nat} (off:Nat):G.loc i=some b→RepA G (.ptr i off) (.pointer (some ⟨b,off,none⟩))
 | iptr {cs:List Dat} (a:Addr) (vs:Nat→Value):a.spot=none→(∀ (j:Nat) (d:Dat),cs[j]?=some d→G.imm (a.add j)=some (vs j)) →
   (∀ (j:Nat) (d:Dat),cs[j]?=some d→RepD G.imm d (vs j))→RepA G (.iptr cs) (.pointer (some a))
 | nilp:RepA G .nilp (.pointer none)
 | row {i b:Nat} (off n cap:Nat):G.loc i=some b→RepA G (.row i off n cap) (.slice (some ⟨b,off,none⟩) n cap)
 | bm {i n:Nat} (a:Option Addr) (cap:Nat):G.rt i n=some (a,cap)→(a=none→n=0)→RepA G (.bm i n) (.slice a n cap)
 | bp {i n:Nat} (p:Addr) (cap k:Nat):G.rt i n=some (some p,cap)→RepA G (.bp i n k) (.pointer (some (p.add k)))
 | fn (f:Fn) {first cap:List AV} (fs cs:Array Value):fs.size=first.length→cs.size=cap.length →
   (∀ (j:Nat) (x:AV) (v:Value),first[j]?=some x→fs[j]?=some v→RepA G x v) →
   (∀ (j:Nat) (x:AV) (v:Value),cap[j]?=some x→cs[j]?=some v→RepA G x v)→RepA G (.fn f first cap) (.func f fs cs)
 | nilf:RepA G .nilf .nilFunc
 | mp {i b:Nat}:G.loc i=some b→RepA G (.mp i) (.map (some b))
 | pv {i b:Nat}:G.loc i=some b→RepA G (.pv i b) (.pointer (some ⟨b,0,none⟩))
 | pb (b:Nat):RepA G (.pb b) (.pointer (some ⟨b,0,none⟩))
 | rx {i b off n:Nat} (off' cap:Nat):G.loc i=some b→n≤cap→(0 < n→off'=off)→RepA G (.rx i off n) (.slice (some ⟨b,off',none⟩) n cap)
 | ifc {b:Bool} {v:Value}:vIc b v=true→RepA G (.ifc b) v
 | ifa {t:Nat} {x:AV} {v:Value}:RepA G x v→RepA G (.ifa t x) (.iface t v)
 | agg {cs:List AV} (vs:Array Value):vs.size=cs.length→(∀ (j:Nat) (x:AV) (v:Value),cs[j]?=some x→vs[j]?=some v→RepA G x v) →
   (∀ (j:Nat) (v:Value),vs[j]?=some v→qHy v=true)→RepA G (.agg cs) (.agg vs)
 | tup {cs:List AV} (vs:Array Value):vs.size=cs.length→(∀ (j:Nat) (x:AV) (v:Value),cs[j]?=some x→vs[j]?=some v→RepA G x v) →
   RepA G (.tup cs) (.tuple vs)
 | gd {b:Bool} {x:AV} {v:Value}:(b=true→RepA G x v)→(b=false→v=undef)→RepA G (.gd b x) v
 | any (v:Value):RepA G .any v
theorem RepA.mono {G G':Gh} (h:G.le G') {x:AV} {v:Value} (r:RepA G x v):RepA G' x v:=by
 induction r with
 | d r=>exact .d (r.mono h.imm)
 | sl r t=>exact .sl (r.mono h.imm) (t.mono h)
 | nils=>exact .nils
 | ptr off hl=>exact .ptr off (h.loc _ _ hl)
 | iptr a vs h1 h2 h3=>exact .iptr a vs h1 (fun j d hd=>h.imm _ _ (h2 j d hd)) (fun j d hd=>(h3 j d hd).mono h.imm)
 | nilp=>exact .nilp
 | row off n cap hl=>exact .row off n cap (h.loc _ _ hl)
 | bm a cap hr hz=>exact .bm a cap (h.rt _ _ _ hr) hz
 | bp p cap k hr=>exact .bp p cap k (h.rt _ _ _ hr)
 | fn f fs cs h1 h2 _ _ ih1 ih2=>exact .fn f fs cs h1 h2 ih1 ih2
 | nilf=>exact .nilf
 | mp hl=>exact .mp (h.loc _ _ hl)
 | pv hl=>exact .pv (h.loc _ _ hl)
 | pb b=>exact .pb b
 | rx off cap hl h1 h2=>exact .rx off cap (h.loc _ _ hl) h1 h2
 | ifc h=>exact .ifc h
 | ifa _ ih=>exact .ifa ih
 | agg vs h1 _ h3 ih=>exact .agg vs h1 ih h3
 | tup vs h1 _ ih=>exact .tup vs h1 ih
 | gd _ hu ih=>exact .gd ih hu
 | any v=>exact .any v
def RowAt (G:Gh) (w:World) (b:Nat) (cells:List AV):Prop :=
 ∀ (j:Nat) (c:AV),cells[j]?=some c→∃ v,w.cell? ⟨b,j,none⟩=some v∧qHy v=true∧RepA G c v∧w.frozen? ⟨b,j,none⟩=false
def SpareOk (G:Gh) (w:World) (i:Nat) (sz n cap:Nat) (a:Option Addr):Prop :=
 n < cap→∃ p:Addr,a=some p∧p.spot=none∧G.own p.block=some i ∧
  ∀ j,n*sz≤j→j < cap*sz→(∃ v,w.cell? (p.add j)=some v)∧w.frozen? (p.add j)=false∧G.imm (p.add j)=none
def BufOk (G:Gh) (w:World) (i sz n cap:Nat) (cells:List AV) (a:Option Addr):Prop :=
 cells.length=n*sz∧n≤cap∧((a=none→cap=0)∧∀ p,a=some p→p.spot=none)∧∀ p,a=some p→0 < cap→p.spot=none∧G.own p.block=some i ∧
  (∀ (j:Nat) (c:AV),cells[j]?=some c→∃ v,w.cell? (p.add j)=some v∧qHy v=true∧RepA G c v) ∧
  ∀ j,j < cap*sz→(∃ v,w.cell? (p.add j)=some v)∧w.frozen? (p.add j)=false∧G.imm (p.add j)=none
def ObjRel (G:Gh) (w:World) (i:Nat):AObj→Prop
 | .row cells=>∃ b,G.loc i=some b∧G.own b=some i∧RowAt G w b cells∧(∀ a:Addr,a.block=b→G.imm a=none)∧∀ n,G.rt i n=none
 | .right sz n=>∃ a cap,G.rt i n=some (a,cap)∧n≤cap∧(∀ n',n < n'→G.rt i n'=none)∧SpareOk G w i sz n cap a
 | .buf sz n cells=>∃ a cap,G.rt i n=some (a,cap)∧(∀ n',n < n'→G.rt i n'=none)∧BufOk G w i sz n cap cells a
 | .dead=>True
 | .room=>G.loc i=none∧∀ n,G.rt i n=none
 | .opq R=>∃ b S,G.loc i=some b∧b∈S∧(∀ n,G.rt i n=none)∧(∀ k,k∈S→G.own k=some i∧∀ a:Addr,a.block=k→G.imm a=none)∧R (fun k=>w.heap[k]?) b S∧∀ f g:Nat→Option Obj,(∀ k,k∈S→f k=g k)→R f b S→R g b S
structure Env where
 w0:World
 G0:Gh
 tab:TabOk w0 G0
 ds:List Deferred
def Env.K (E:Env) (b:Nat):Prop:=b < E.w0.heap.size∧E.G0.own b=none
structure WRel (E:Env) (G:Gh) (h:List AObj) (w:World):Prop where
 le:E.G0.le G
 imm:∀ a v,G.imm a=some v→w.cell? a=some v
 immNew:∀ a v,G.imm a=some v→E.G0.imm a=some v∨¬ E.K a.block
 keep:∀ b,E.K b→w.heap[b]?=E.w0.heap[b]?
 size:E.w0.heap.size≤w.heap.size
 os:w.os=E.w0.os
 tape:w.tape=E.w0.tape
 output:w.output=E.w0.output
 own:∀ b i,G.own b=some i→b < w.heap.size∧¬ E.K b
 fresh:∀ i,h.length≤i→G.loc i=none∧∀ n,G.rt i n=none
 obj:∀ i o,h[i]?=some o→ObjRel G w i o
theorem WRel.tabB {E:Env} {G:Gh} {h:List AObj} {w:World} (hw:WRel E G h w) {own':Nat→Option Nat} (ho:∀ b,G.own b=none→own' b=none):TabB w own':=by
 intro g p hg
 obtain ⟨h1,o,h2,h3⟩:=E.tab.2 g p hg
 have hk:E.K g:=⟨(Array.getElem?_eq_some_iff.1 h2).1,h1⟩
 have hown:G.own g=none:=by
  cases hh:G.own g with
  | none=>rfl
  | some i=>exact absurd hk (hw.own _ _ hh).2
 exact ⟨ho g hown,o,(hw.keep g hk).trans h2,h3⟩
def Rel (E:Env) (N:Nat) (τ:Nat→AV) (h:List AObj) (a:Act) (w:World):Prop :=
 a.tmps.size=N∧a.defers=E.ds∧∃ G,WRel E G h w∧∀ t,RepA G (τ t) (a.tmps.getD t undef)
def AW (P:Program) (E:Env) (N:Nat) (c:Code) (Q:Exit→(Nat→AV)→List AObj→Prop) (τ:Nat→AV) (h:List AObj):Prop :=
 ∀ a w,Rel E N τ h a w→c.wp P (fun ex a' w'=>∃ τ' h',Q ex τ' h'∧Rel E N τ' h' a' w') a w
def qPb (K:(Nat→AV)→List AObj→Prop) (Q:Exit→(Nat→AV)→List AObj→Prop):Exit→(Nat→AV)→List AObj→Prop
 | .normal,τ,h=>K τ h
 | e,τ,h=>Q e τ h
def qGr (id:Nat) (Q:Exit→(Nat→AV)→List AObj→Prop):Exit→(Nat→AV)→List AObj→Prop
 | .exit id',τ,h=>bif Nat.beq id' id then Q .normal τ h else Q (.exit id') τ h
 | e,τ,h=>Q e τ h
section rules
variable {P:Program} {E:Env} {N:Nat} {Q:Exit→(Nat→AV)→List AObj→Prop} {τ:Nat→AV} {h:List AObj}
theorem qHn {c:Code} {Q':Exit→(Nat→AV)→List AObj→Prop} (hc:AW P E N c Q τ h) (hq:∀ e τ h,Q e τ h→Q' e τ h):AW P E N c Q' τ h :=
 fun a w r=>wp_mono (hc a w r) fun _ _ _ ⟨τ',h',q,r'⟩=>⟨τ',h',hq _ _ _ q,r'⟩
theorem qDy (hq:Q .normal τ h):AW P E N .skip Q τ h:=fun _ _ r=>wp_skip ⟨τ,h,hq,r⟩
theorem qBr {id:Nat} (hq:Q (.exit id) τ h):AW P E N (.exit id) Q τ h:=fun _ _ r=>wp_exit ⟨τ,h,hq,r⟩
theorem vAy (hq:Q .ret τ h):AW P E N .ret Q τ h:=fun _ _ r=>wp_ret ⟨τ,h,hq,r⟩
theorem qAf {x y:Code} (hx:AW P E N x (qPb (fun τ h=>AW P E N y Q τ h) Q) τ h):AW P E N (.seq x y) Q τ h :=
 fun a w r=>wp_seq (wp_mono (hx a w r) fun e a' w' ⟨τ',h',q,r'⟩=>by
  cases e with
  | normal=>exact q a' w' r'
  | _=>exact ⟨τ',h',q,r'⟩)
theorem qGv {id:Nat} {c:Code} (hc:AW P E N c (qGr id Q) τ h):AW P E N (.block id c) Q τ h :=
 fun a w r=>wp_block (wp_mono (hc a w r) fun e a' w' ⟨τ',h',q,r'⟩=>by
  cases e with
  | exit id' =>
   simp only [qGr] at q
   by_cases hid:id'=id
   ·subst hid;simp only [Exit.inBlock,if_true]
    have hb:Nat.beq id' id'=true:=Nat.beq_refl id'
    rw [hb] at q;exact ⟨τ',h',q,r'⟩
   ·simp only [Exit.inBlock,hid,if_false]
    have hb:Nat.beq id' id=false:=by
     cases hb:Nat.beq id' id with
     | false=>rfl
     | true=>exact absurd (Nat.eq_of_beq_eq_true hb) hid
    rw [hb] at q;exact ⟨τ',h',q,r'⟩
  | _=>exact ⟨τ',h',q,r'⟩)
def evA (τ:Nat→AV) (ofV:Value→AV):Operand→AV
 | .tmp t=>τ t
 | .const v=>ofV v
 | .global g=>match qHd g with
  | some cs=>.iptr cs
  | none=>.any
 | .func f=>.fn (.func f) [] []
theorem qVt {G:Gh} (h:TabI G.imm) (g:Nat):RepA G (match qHd g with | some cs=>.iptr cs | none=>.any) (.pointer (some ⟨g,0,none⟩)):=by
 split
 ·rename_i cs hg
  obtain ⟨vs,hv⟩:=h g cs hg
  refine .iptr ⟨g,0,none⟩ vs rfl (fun j d hd=>?_) (fun j d hd=>(hv j d hd).2)
  have h1:=(hv j d hd).1
  have h2:(⟨g,0,none⟩:Addr).add j=⟨g,j,none⟩:=by
   unfold Addr.add
   split
   ·rename_i h0;rw [h0]
   ·simp
  rw [h2];exact h1
 ·exact .any _
theorem vGr {c:Operand} {x y:Code} {ofV:Value→AV} {b:Bool} (ho:∀ G v,RepA G (ofV v) v) (hc:evA τ ofV c=.d (.bool b))
  (ht:b=true→AW P E N x Q τ h) (hf:b=false→AW P E N y Q τ h):AW P E N (.cond c x y) Q τ h:=by
 intro a w r
 obtain ⟨h1,h2,G,hw,ht'⟩:=r
 have hv:a.eval c=.bool b:=by
  have:RepA G (evA τ ofV c) (a.eval c):=by
   cases c with
   | tmp t=>exact ht' t
   | const v=>exact ho G v
   | global g=>exact qVt (E.tab.1.mono hw.le.imm) g
   | func f=>exact .fn _ #[] #[] rfl rfl (fun j x v h=>by simp at h) (fun j x v h=>by simp at h)
  rw [hc] at this
  generalize a.eval c=u at this ⊢
  cases this with
  | d r=>cases r;rfl
 refine wp_cond_split hv (fun hb=>ht hb a w ⟨h1,h2,G,hw,ht'⟩) (fun hb=>hf hb a w ⟨h1,h2,G,hw,ht'⟩)
theorem vAz {c:Code} {ι:Type} (S:ι→(Nat→AV)) (H:ι→List AObj) (inv:ι→Prop) (μ:ι→Nat) (x0:ι) (h0:inv x0)
  (hs:∀ a w,Rel E N τ h a w→Rel E N (S x0) (H x0) a w)
  (round:∀ x,inv x→AW P E N c (qPb (fun τ' h'=>∃ y,inv y∧μ y < μ x∧∀ a w,Rel E N τ' h' a w→Rel E N (S y) (H y) a w) Q) (S x) (H x)) :
  AW P E N (.loop c) Q τ h:=by
 intro a w r b k cs
 have key:∀ n x a w,μ x=n→inv x→Rel E N (S x) (H x) a w →
   ∃ e a' w',(∃ τ' h',Q e τ' h'∧Rel E N τ' h' a' w')∧Arrives P (lone (b.at a (.code c::.inLoop c::k)) cs w) b k cs e a' w':=by
  intro n
  induction n using Nat.strongRecOn with
  | _ n ih =>
   intro x a w hn hI hr
   obtain ⟨e,a₁,w₁,⟨τ',h',hq,hr'⟩,harr⟩:=round x hI a w hr b (.inLoop c::k) cs
   cases e with
   | normal =>
    obtain ⟨y,hy,hlt,hsub⟩:=hq
    obtain ⟨e₂,a₂,w₂,hq₂,harr₂⟩:=ih (μ y) (hn▸hlt) y a₁ w₁ rfl hy (hsub _ _ hr')
    exact ⟨e₂,a₂,w₂,hq₂,.of_steps (Steps.trans harr (.one step_inLoop)) harr₂⟩
   | exit id=>exact ⟨_,a₁,w₁,⟨τ',h',hq,hr'⟩,.pass (x:=.inLoop c) rfl (fun _ _=>.inl (by simp)) harr⟩
   | goto l=>exact ⟨_,a₁,w₁,⟨τ',h',hq,hr'⟩,.pass (x:=.inLoop c) rfl (fun _ _=>.inl (by simp)) harr⟩
   | ret=>exact ⟨_,a₁,w₁,⟨τ',h',hq,hr'⟩,.pass (x:=.inLoop c) rfl (fun _ _=>.inl (by simp)) harr⟩
   | panic ch=>exact ⟨_,a₁,w₁,⟨τ',h',hq,hr'⟩,.pass (x:=.inLoop c) rfl (fun _ _=>.inl (by simp)) harr⟩
   | outgrown=>exact ⟨_,a₁,w₁,⟨τ',h',hq,hr'⟩,.pass (x:=.inLoop c) rfl (fun _ _=>.inl (by simp)) harr⟩
 obtain ⟨e,a',w',hq,harr⟩:=key _ x0 a w rfl h0 (hs a w r)
 exact ⟨e,a',w',hq,.of_steps (.one step_loop) harr⟩
theorem qJt {c:Code} {τ':Nat→AV} {h':List AObj} (hs:∀ a w,Rel E N τ h a w→Rel E N τ' h' a w) (hc:AW P E N c Q τ' h'):AW P E N c Q τ h :=
 fun a w r=>hc a w (hs a w r)
end rules
inductive TK where
 | int (k:IntKind)
 | bool
 | str
 | slice (e:Nat)
 | ptr
 | struct (fs:List (Nat×Nat×Bool))
 | array (n e:Nat)
 | fn
 | other
structure TI where
 kind:TK
 size:Nat
 bytes:Nat
 zero:List AV
def TI.agg (i:TI):Bool:=match i.kind with
 | .struct _ | .array _ _=>true
 | _=>false
inductive Tr where
 | lf
 | nd (l:Tr) (k:Nat) (v:TI) (r:Tr)
def Tr.find:Tr→Nat→Option TI
 | .lf,_=>none
 | .nd l k v r,t=>match Nat.beq t k with
  | true=>some v
  | false=>match Nat.blt t k with
   | true=>l.find t
   | false=>r.find t
def kIx:IntKind→Nat
 | .i8=>0 | .i16=>1 | .i32=>2 | .i64=>3 | .u8=>4 | .u16=>5 | .u32=>6 | .u64=>7
def kEq (a b:IntKind):Bool:=Nat.beq (kIx a) (kIx b)
theorem kEq_eq {a b:IntKind} (h:kEq a b=true):a=b:=by cases a <;> cases b <;> first | rfl | (exact absurd h (by decide))
def zrep:AV→Value→Bool
 | .d (.int k n),.int k' n'=>kEq k k'&&n == n'
 | .d (.bool b),.bool b'=>b == b'
 | .d (.str []),.string s=>s.data.toList.isEmpty
 | .sl _ [] .full,.slice none 0 0=>true
 | .nilp,.pointer none=>true
 | .nilf,.nilFunc=>true
 | .ifc true,.nilIface=>true
 | _,_=>false
def qWn:List AV→List Value→Bool
 | [],[]=>true
 | a::l,v::r=>zrep a v&&qWn l r
 | _,_=>false
theorem vEe {a:AV} {v:Value} (h:zrep a v=true) (G:Gh):RepA G a v∧qHy v=true:=by
 unfold zrep at h
 split at h
 ·simp only [Bool.and_eq_true,beq_iff_eq] at h
  obtain ⟨h1,rfl⟩:=h
  obtain rfl:=kEq_eq h1
  exact ⟨.d (.int _ _),rfl⟩
 ·simp only [beq_iff_eq] at h;subst h;exact ⟨.d (.bool _),rfl⟩
 ·rename_i s
  obtain ⟨⟨l⟩⟩:=s
  simp only [List.isEmpty_iff] at h
  subst h
  exact ⟨.d (.str []),rfl⟩
 ·exact ⟨.sl (.nil _) ⟨none,rfl,fun p hp=>by cases hp⟩,rfl⟩
 ·exact ⟨.nilp,rfl⟩
 ·exact ⟨.nilf,rfl⟩
 ·exact ⟨.ifc rfl,rfl⟩
 ·cases h
theorem zrepL_ok:∀ {l:List AV} {r:List Value},qWn l r=true→l.length=r.length∧∀ (G:Gh) (j:Nat) (a:AV) (v:Value),l[j]?=some a→r[j]?=some v→RepA G a v∧qHy v=true
 | [],[],_=>⟨rfl,fun _ _ _ _ h=>by simp at h⟩
 | a::l,v::r,h=>by
  simp only [qWn,Bool.and_eq_true] at h
  have ih:=zrepL_ok h.2
  refine ⟨by simp [ih.1],fun G j x y hx hy=>?_⟩
  cases j with
  | zero=>simp at hx hy;subst hx;subst hy;exact vEe h.1 G
  | succ j=>simp at hx hy;exact ih.2 G j x y hx hy
def fieldsOf (P:Program):List Field→List (Nat×Nat×Bool)→Bool
 | [],[]=>true
 | f::r,(o,s,a)::l=>Nat.beq f.offset o&&(match P.info? f.type with | some i=>Nat.beq i.size s | none=>false) &&
   (match P.underlying f.type with | some (.struct _) | some (.array _ _)=>a | some _=>!a | none=>false)&&fieldsOf P r l
 | _,_=>false
def qCx (P:Program):TK→TypeDesc→Bool
 | .int k,.int k'=>kEq k k'
 | .bool,.bool=>true
 | .str,.string=>true
 | .slice e,.slice e'=>Nat.beq e e'
 | .ptr,.pointer _=>true
 | .struct fs,.struct fields=>fieldsOf P fields.toList fs
 | .array n e,.array n' e'=>Nat.beq n n'&&Nat.beq e e'
 | .fn,.func _ _ _=>true
 | .other,.interface _=>true
 | _,_=>false
def vDy (i:TI) (info:TypeInfo):Bool :=
 Nat.beq info.size i.size&&Nat.beq info.bytes i.bytes&&(match info.zero with | some z=>qWn i.zero z.cells.toList | none=>false)
def vDs (P:Program) (t:Nat) (i:TI):Bool :=
 (match P.info? t with | some info=>vDy i info | none=>false)&&(match P.underlying t with | some d=>qCx P i.kind d | none=>false)
def Tr.all (p:Nat→TI→Bool):Tr→Bool
 | .lf=>true
 | .nd l k v r=>p k v&&l.all p&&r.all p
theorem Tr.find_all {p:Nat→TI→Bool}:∀ {T:Tr} {t:Nat} {i:TI},T.all p=true→T.find t=some i→p t i=true
 | .lf,_,_,_,h=>by simp [Tr.find] at h
 | .nd l k v r,t,i,ha,h=>by
  simp only [Tr.all,Bool.and_eq_true] at ha
  unfold Tr.find at h
  split at h
  ·rename_i hb
   obtain rfl:=Nat.eq_of_beq_eq_true hb
   simp only [Option.some.injEq] at h;subst h;exact ha.1.1
  ·split at h
   ·exact find_all ha.1.2 h
   ·exact find_all ha.2 h
structure TOk (P:Program) (T:Tr):Prop where
 all:T.all (vDs P)=true
structure TypeAt (P:Program) (t:Nat) (i:TI):Prop where
 info:∃ info,P.info? t=some info∧info.size=i.size∧info.bytes=i.bytes∧∃ z,info.zero=some z∧qWn i.zero z.cells.toList=true
 und:∃ d,P.underlying t=some d∧qCx P i.kind d=true
theorem TOk.at {P:Program} {T:Tr} (h:TOk P T) {t:Nat} {i:TI} (hf:T.find t=some i):TypeAt P t i:=by
 have:=Tr.find_all h.all hf
 unfold vDs at this
 simp only [Bool.and_eq_true] at this
 obtain ⟨h1,h2⟩:=this
 constructor
 ·split at h1
  ·rename_i info hi
   simp only [vDy,Bool.and_eq_true] at h1
   obtain ⟨⟨ha,hb⟩,hc⟩:=h1
   refine ⟨info,hi,Nat.eq_of_beq_eq_true ha,Nat.eq_of_beq_eq_true hb,?_⟩
   split at hc
   ·rename_i z hz;exact ⟨z,hz,hc⟩
   ·cases hc
  ·cases h1
 ·split at h2
  ·rename_i d hd;exact ⟨d,hd,h2⟩
  ·cases h2
section runs
variable {P:Program} {t:Nat} {i:TI} {w:World}
theorem TypeAt.run_size (h:TypeAt P t i):(Go.sizeOf t).run P w=.ok i.size w:=by
 obtain ⟨info,hi,hs,_⟩:=h.info
 simp [Go.sizeOf,typeInfo,hi,hs]
theorem TypeAt.run_zero (h:TypeAt P t i):∃ z,(zeroValue t).run P w=.ok z w∧qWn i.zero z.cells.toList=true:=by
 obtain ⟨info,hi,_,_,z,hz,hc⟩:=h.info
 exact ⟨z,by simp [zeroValue,typeInfo,hi,hz],hc⟩
theorem TypeAt.run_agg (h:TypeAt P t i):(isAgg t).run P w=.ok i.agg w:=by
 obtain ⟨d,hd,hk⟩:=h.und
 unfold isAgg TI.agg
 rw [Sem.run_bind,run_underlying hd w]
 cases hkd:i.kind <;> rw [hkd] at hk <;> cases d <;> simp_all [qCx]
end runs
def qJx:Value→AV
 | .int k n=>.d (.int k n)
 | .bool b=>.d (.bool b)
 | .string s=>.d (.str s.data.toList)
 | .pointer none=>.nilp
 | .slice none 0 0=>.nils
 | .nilFunc=>.nilf
 | .nilIface=>.ifc true
 | _=>.any
theorem ofVal_ok (G:Gh) (v:Value):RepA G (qJx v) v:=by
 unfold qJx
 split
 ·exact .d (.int _ _)
 ·exact .d (.bool _)
 ·rename_i s;obtain ⟨⟨l⟩⟩:=s;exact .d (.str l)
 ·exact .nilp
 ·exact .nils
 ·exact .nilf
 ·exact .ifc rfl
 ·exact .any _
abbrev ev (τ:Nat→AV):Operand→AV:=evA τ qJx
section inv
variable {G:Gh} {v:Value}
theorem RepA.int_inv {k:IntKind} {n:Int} (h:RepA G (.d (.int k n)) v):v=.int k n:=by cases h with | d r=>cases r;rfl
theorem RepA.bool_inv {b:Bool} (h:RepA G (.d (.bool b)) v):v=.bool b:=by cases h with | d r=>cases r;rfl
theorem RepA.str_inv {s:List UInt8} (h:RepA G (.d (.str s)) v):v=.string ⟨s.toArray⟩:=by cases h with | d r=>cases r;rfl
theorem RepA.gd_inv {b:Bool} {x:AV} (h:RepA G (.gd b x) v) (hb:b=true):RepA G x v:=by cases h with | gd r _=>exact r hb
theorem RepA.gd_undef {b:Bool} {x:AV} (h:RepA G (.gd b x) v) (hb:b=false):v=undef:=by cases h with | gd _ r=>exact r hb
theorem RepA.ptr_inv {i off:Nat} (h:RepA G (.ptr i off) v):∃ b,v=.pointer (some ⟨b,off,none⟩)∧G.loc i=some b:=by cases h with | ptr _ r=>exact ⟨_,rfl,r⟩
end inv
def OpP (P:Program) (o:Oper) (ρ:Operand→AV) (v:AV):Prop :=
 ∀ (G:Gh) (e:Operand→Value) (w:World),(∀ a x,G.imm a=some x→w.cell? a=some x)→(∀ x,x∈o.op.operands.toList→RepA G (ρ x) (e x)) →
  ∃ u,(execOp e o).run P w=.ok (.value u) w∧RepA G v u
def vAd (op:BinOp) (k:IntKind) (a b:Int):Option (AV×Prop) :=
 match op with
 | .add=>some (.d (.int k (k.wrap (a+b))),True)
 | .sub=>some (.d (.int k (k.wrap (a-b))),True)
 | .mul=>some (.d (.int k (k.wrap (a*b))),True)
 | .quo=>some (.d (.int k (k.wrap (a.tdiv b))),b≠0)
 | .rem=>some (.d (.int k (a.tmod b)),b≠0)
 | .and=>some (.d (.int k (k.wrap (BitVec.ofInt k.bits a &&& BitVec.ofInt k.bits b).toNat)),True)
 | .or=>some (.d (.int k (k.wrap (BitVec.ofInt k.bits a ||| BitVec.ofInt k.bits b).toNat)),True)
 | .xor=>some (.d (.int k (k.wrap (BitVec.ofInt k.bits a ^^^ BitVec.ofInt k.bits b).toNat)),True)
 | .andNot=>some (.d (.int k (k.wrap (BitVec.ofInt k.bits a &&& ~~~ BitVec.ofInt k.bits b).toNat)),True)
 | .eql=>some (.d (.bool (a == b)),True)
 | .neq=>some (.d (.bool (a != b)),True)
 | .lss=>some (.d (.bool (decide (a < b))),True)
 | .leq=>some (.d (.bool (decide (a≤b))),True)
 | .gtr=>some (.d (.bool (decide (a > b))),True)
 | .geq=>some (.d (.bool (decide (a≥b))),True)
 | _=>none
def vAc (op:BinOp) (a b:List UInt8):Option (AV×Prop) :=
 match op with
 | .add=>some (.d (.str (a++b)),a.length+b.length≤9223372036854775807)
 | .eql=>some (.d (.bool (a == b)),True)
 | .neq=>some (.d (.bool (!(a == b))),True)
 | .lss=>some (.d (.bool (Op.bytesLess a b)),True)
 | .leq=>some (.d (.bool (Op.bytesLess a b||a == b)),True)
 | .gtr=>some (.d (.bool (!(Op.bytesLess a b||a == b))),True)
 | .geq=>some (.d (.bool (!Op.bytesLess a b)),True)
 | _=>none
def qSs (T:Tr) (t:Nat):Bool:=match T.find t with
 | some i=>match i.kind with | .bool=>true | _=>false
 | none=>false
def vJc (T:Tr) (op:BinOp) (t:Nat) (x y:AV):Option (AV×Prop) :=
 match x with
 | .d (.int k a)=>match y with
  | .d (.int k' b)=>match op with
   | .shl=>some (.d (.int k (k.wrap (a*2 ^ (min b.toNat k.bits)))),0≤b)
   | .shr=>some (.d (.int k (a.fdiv (2 ^ (min b.toNat k.bits)))),0≤b)
   | op=>match kEq k k' with
    | true=>vAd op k a b
    | false=>none
  | _=>none
 | .d (.str a)=>match y with
  | .d (.str b)=>vAc op a b
  | _=>none
 | .d (.bool a)=>match y with
  | .d (.bool b)=>match qSs T t with
   | true=>match op with
    | .eql=>some (.d (.bool (a == b)),True)
    | .neq=>some (.d (.bool (!(a == b))),True)
    | _=>none
   | false=>none
  | _=>none
 | _=>none
theorem eqGuard_run {P:Program} {w:World} (op:BinOp) (t:TypeId) (x y:Operand) (a b:Value) (h1:∀ z,a=.nilIface→b=z→z≠.nilIface) (h2:∀ c d,a=.agg c→b≠.agg d) :
  (eqGuard op t x y a b).run P w=.ok () w:=by
 unfold eqGuard
 cases op <;> simp
 all_goals
  split
  ·exact absurd rfl (h1 _ rfl rfl)
  ·exact absurd rfl (h2 _ _ rfl)
  ·simp
theorem eqGuard_int {P:Program} {w:World} (op:BinOp) (t:TypeId) (x y:Operand) (k k':IntKind) (a b:Int):(eqGuard op t x y (.int k a) (.int k' b)).run P w=.ok () w :=
 eqGuard_run _ _ _ _ _ _ (by simp) (by simp)
theorem eqGuard_str {P:Program} {w:World} (op:BinOp) (t:TypeId) (x y:Operand) (a b:ByteArray):(eqGuard op t x y (.string a) (.string b)).run P w=.ok () w :=
 eqGuard_run _ _ _ _ _ _ (by simp) (by simp)
theorem eqGuard_bool {P:Program} {w:World} (op:BinOp) (t:TypeId) (x y:Operand) (a b:Bool):(eqGuard op t x y (.bool a) (.bool b)).run P w=.ok () w :=
 eqGuard_run _ _ _ _ _ _ (by simp) (by simp)
theorem binInt_run {P:Program} {w:World} {G:Gh} {op:BinOp} {k:IntKind} {a b:Int} {v:AV} {C:Prop} (hne:op≠.shl∧op≠.shr) (h:vAd op k a b=some (v,C)) (hC:C) (t:TypeId) :
  ∃ u,(Go.binOp op t (.int k a) (.int k b)).run P w=.ok u w∧RepA G v u:=by
 cases op <;> simp only [vAd,Option.some.injEq,Prod.mk.injEq] at h <;> try (exact absurd rfl hne.1)
 all_goals try (exact absurd rfl hne.2)
 all_goals obtain ⟨rfl,rfl⟩:=h
 all_goals simp only [Go.binOp,ne_eq,not_true_eq_false,if_false,Op.intArith,Op.intDiv,Op.intBits,Op.intCmp]
 all_goals first
  | exact ⟨_,rfl,.d (.int _ _)⟩
  | exact ⟨_,rfl,.d (.bool _)⟩
  | (simp only [if_neg hC];exact ⟨_,rfl,.d (.int _ _)⟩)
theorem qFq (s:List UInt8):(⟨s.toArray⟩:ByteArray).size=s.length:=by simp [ByteArray.size]
theorem binStr_run {P:Program} {w:World} {G:Gh} {op:BinOp} {a b:List UInt8} {v:AV} {C:Prop} (h:vAc op a b=some (v,C)) (hC:C) (t:TypeId) :
  ∃ u,(Go.binOp op t (.string ⟨a.toArray⟩) (.string ⟨b.toArray⟩)).run P w=.ok u w∧RepA G v u:=by
 cases op <;> simp only [vAc,Option.some.injEq,Prod.mk.injEq,reduceCtorEq] at h
 all_goals obtain ⟨rfl,rfl⟩:=h
 all_goals simp only [Go.binOp,Op.stringOp,ByteArray.toList_mk]
 case add =>
  rw [qFq,qFq,if_neg (by simp [IntKind.max,IntKind.signed,IntKind.bits];omega)]
  exact ⟨_,rfl,by rw [ByteArray.mk_append_mk];exact .d (.str _)⟩
 all_goals exact ⟨_,rfl,.d (.bool _)⟩
theorem qRu {P:Program} {T:Tr} (hT:TOk P T) {t:Nat} (h:qSs T t=true):P.underlying t=some .bool:=by
 unfold qSs at h
 split at h
 ·rename_i i hi
  split at h
  ·rename_i hk
   obtain ⟨d,hd,hkd⟩:=(hT.at hi).und
   rw [hk] at hkd
   cases d <;> simp [qCx] at hkd
   exact hd
  ·cases h
 ·cases h
theorem binA_ok {P:Program} {T:Tr} (hT:TOk P T) {o:Oper} {op:BinOp} {t yt:Nat} {x y:Operand} (ho:o.op=.binOp op t x y yt) {ρ:Operand→AV} {v:AV} {C:Prop}
  (h:vJc T op t (ρ x) (ρ y)=some (v,C)) (hC:C):OpP P o ρ v:=by
 intro G e w hi hr
 have hx:RepA G (ρ x) (e x):=hr x (by simp [ho,Op.operands])
 have hy:RepA G (ρ y) (e y):=hr y (by simp [ho,Op.operands])
 unfold execOp
 simp only [ho,Sem.run_bind]
 unfold vJc at h
 split at h
 ·rename_i k a hxe
  rw [hxe] at hx
  rw [hx.int_inv]
  split at h
  ·rename_i k' b hye
   rw [hye] at hy
   rw [hy.int_inv,eqGuard_int]
   split at h
   ·simp only [Option.some.injEq,Prod.mk.injEq] at h
    obtain ⟨rfl,rfl⟩:=h
    simp only [Result.andThen_ok,Go.binOp,Op.shift,if_neg (Int.not_lt.2 hC)]
    exact ⟨_,rfl,.d (.int _ _)⟩
   ·simp only [Option.some.injEq,Prod.mk.injEq] at h
    obtain ⟨rfl,rfl⟩:=h
    simp only [Result.andThen_ok,Go.binOp,Op.shift,if_neg (Int.not_lt.2 hC)]
    exact ⟨_,rfl,.d (.int _ _)⟩
   ·rename_i hn1 hn2
    split at h
    ·rename_i hk
     obtain rfl:=kEq_eq hk
     obtain ⟨u,hu,hru⟩:=binInt_run (P:=P) (w:=w) (G:=G) ⟨hn1,hn2⟩ h hC t
     exact ⟨u,by simp [hu],hru⟩
    ·cases h
  ·cases h
 ·rename_i a hxe
  rw [hxe] at hx
  rw [hx.str_inv]
  split at h
  ·rename_i b hye
   rw [hye] at hy
   rw [hy.str_inv,eqGuard_str]
   obtain ⟨u,hu,hru⟩:=binStr_run (P:=P) (w:=w) (G:=G) h hC t
   exact ⟨u,by simp [hu],hru⟩
  ·cases h
 ·rename_i a hxe
  rw [hxe] at hx
  rw [hx.bool_inv]
  split at h
  ·rename_i b hye
   rw [hye] at hy
   rw [hy.bool_inv,eqGuard_bool]
   split at h
   ·rename_i hb
    have hu:=qRu hT hb
    have he:(Op.equal t (.bool a) (.bool b)).run P w=.ok (a == b) w:=by
     show (Op.equalIn (9999+1) t (.bool a) (.bool b)).run P w=_
     rw [Op.equalIn]
     simp [run_underlying hu]
    split at h
    ·simp only [Option.some.injEq,Prod.mk.injEq] at h
     obtain ⟨rfl,rfl⟩:=h
     exact ⟨_,by simp [Go.binOp,he],.d (.bool _)⟩
    ·simp only [Option.some.injEq,Prod.mk.injEq] at h
     obtain ⟨rfl,rfl⟩:=h
     exact ⟨_,by simp [Go.binOp,he],.d (.bool _)⟩
    ·cases h
   ·cases h
  ·cases h
 ·cases h
def unA (op:UnOp) (x:AV):Option AV :=
 match op with
 | .not=>match x with
  | .d (.bool b)=>some (.d (.bool (!b)))
  | _=>none
 | .neg=>match x with
  | .d (.int k n)=>some (.d (.int k (k.wrap (0-n))))
  | _=>none
 | .xor=>match x with
  | .d (.int k n)=>some (.d (.int k (k.wrap (BitVec.ofInt k.bits (if k.signed then -1 else k.max) ^^^ BitVec.ofInt k.bits n).toNat)))
  | _=>none
 | _=>none
theorem unA_ok {P:Program} {o:Oper} {op:UnOp} {t:Nat} {x:Operand} (ho:o.op=.unOp op t x) {ρ:Operand→AV} {v:AV} (h:unA op (ρ x)=some v):OpP P o ρ v:=by
 intro G e w hi hr
 have hx:RepA G (ρ x) (e x):=hr x (by simp [ho,Op.operands])
 unfold execOp
 simp only [ho,Sem.run_bind]
 unfold unA at h
 split at h
 ·split at h
  ·rename_i hxe;rw [hxe] at hx;rw [hx.bool_inv];cases h;exact ⟨_,rfl,.d (.bool _)⟩
  ·cases h
 ·split at h
  ·rename_i hxe;rw [hxe] at hx;rw [hx.int_inv];cases h;exact ⟨_,rfl,.d (.int _ _)⟩
  ·cases h
 ·split at h
  ·rename_i hxe;rw [hxe] at hx;rw [hx.int_inv];cases h;exact ⟨_,rfl,.d (.int _ _)⟩
  ·cases h
 ·cases h
theorem qDw (a:Addr) (h:a.spot=none) (x y:Nat):(a.add x).add y=a.add (x+y):=by
 obtain ⟨b,o,s⟩:=a
 simp only at h;subst h
 unfold Addr.add
 by_cases hx:x=0
 ·subst hx;simp
 ·by_cases hy:y=0
  ·subst hy;simp [hx]
  ·simp [hx,hy,show x+y≠0 by omega,Nat.add_assoc]
theorem qFr (a:Addr) (h:a.spot=none) (x:Nat):(a.add x).spot=none:=by unfold Addr.add;split <;> simp_all
theorem qCs (a:Addr) (x:Nat):(a.add x).block=a.block:=by unfold Addr.add;split <;> simp_all
theorem qCr (b o x:Nat):(⟨b,o,none⟩:Addr).add x=⟨b,o+x,none⟩:=by unfold Addr.add;split <;> simp_all
theorem qCq (a:Addr) (h:a.spot=none) (x:Nat):a.add x=⟨a.block,a.off+x,none⟩:=by
 obtain ⟨b,o,s⟩:=a
 simp only at h;subst h
 exact qCr b o x
def qDd:AV→Bool
 | .agg _ | .tup _ | .gd _ _ | .any=>false
 | _=>true
theorem qMs {G:Gh} {x:AV} {v:Value} (h:RepA G x v) (hs:qDd x=true):qHy v=true:=by
 cases h with
 | d r=>exact r.one
 | sl r _=>exact r.one
 | agg _ _ _ _=>cases hs
 | tup _ _ _=>cases hs
 | gd _ _=>cases hs
 | any=>cases hs
 | ifc h=>rename_i b;cases b <;> cases v <;> first | rfl | cases h
 | _=>rfl
def cellsA (v:AV):Option (List AV):=match v with
 | .agg cs=>some cs
 | v=>match qDd v with
  | true=>some [v]
  | false=>none
theorem qLc {v:Value} (h:qHy v=true):v.cells = #[v]:=by cases v <;> first | rfl | cases h
theorem cellsA_ok {G:Gh} {x:AV} {v:Value} {cs:List AV} (h:RepA G x v) (hc:cellsA x=some cs) :
  v.cells.size=cs.length∧∀ (j:Nat) (c:AV) (u:Value),cs[j]?=some c→v.cells[j]?=some u→RepA G c u∧qHy u=true:=by
 have one:qDd x=true→cs=[x]→v.cells.size=cs.length∧∀ (j:Nat) (c:AV) (u:Value),cs[j]?=some c→v.cells[j]?=some u→RepA G c u∧qHy u=true:=by
  intro hs hcs
  subst hcs
  have h1:=qMs h hs
  rw [qLc h1]
  refine ⟨rfl,fun j c u hc hu=>?_⟩
  cases j with
  | zero=>simp at hc hu;subst hc;subst hu;exact ⟨h,h1⟩
  | succ j=>simp at hc
 cases h with
 | agg vs h1 h2 h3 =>
  simp only [cellsA,Option.some.injEq] at hc
  subst hc
  exact ⟨h1,fun j c u hc hu=>⟨h2 j c u hc hu,h3 j u hu⟩⟩
 | tup _ _ _=>simp [cellsA,qDd] at hc
 | gd _ _=>simp [cellsA,qDd] at hc
 | any=>simp [cellsA,qDd] at hc
 | _=>exact one rfl (by simpa [cellsA,qDd] using hc.symm)
def qPa:AV→Option Dat
 | .d x=>some x
 | .sl sz es _=>some (.sl sz es)
 | _=>none
theorem toDat_ok {G:Gh} {x:AV} {v:Value} {y:Dat} (h:RepA G x v) (hc:qPa x=some y):RepD G.imm y v:=by
 cases h with
 | d r=>simp only [qPa,Option.some.injEq] at hc;subst hc;exact r
 | sl r _=>simp only [qPa,Option.some.injEq] at hc;subst hc;exact r
 | _=>cases hc
def vDc:AV→Option (Nat×List (List Dat))
 | .d (.sl sz es)=>some (sz,es)
 | .sl sz es _=>some (sz,es)
 | _=>none
theorem asEs_ok {G:Gh} {x:AV} {v:Value} {sz:Nat} {es:List (List Dat)} (h:RepA G x v) (hc:vDc x=some (sz,es)):RepD G.imm (.sl sz es) v:=by
 cases h with
 | d r =>
  unfold vDc at hc
  split at hc
  ·rename_i he;cases he;cases hc;exact r
  ·rename_i he;cases he
  ·cases hc
 | sl r _=>simp only [vDc,Option.some.injEq,Prod.mk.injEq] at hc;obtain ⟨rfl,rfl⟩:=hc;exact r
 | _=>cases hc
theorem RepD.slice_inv {m:Addr→Option Value} {sz:Nat} {es:List (List Dat)} {v:Value} (h:RepD m (.sl sz es) v) :
  ∃ a cap,v=.slice a es.length cap∧(a=none→es=[]∧cap=0)∧∀ p,a=some p→(0 < cap→p.spot=none)∧es.length≤cap∧(∀ e,e∈es→e.length=sz) ∧
   ∃ vs:Nat→Value,(∀ (i:Nat) (e:List Dat) (j:Nat) (d:Dat),es[i]?=some e→e[j]?=some d→m (p.add (i*sz+j))=some (vs (i*sz+j))) ∧
    (∀ (i:Nat) (e:List Dat) (j:Nat) (d:Dat),es[i]?=some e→e[j]?=some d→RepD m d (vs (i*sz+j))):=by
 cases h with
 | nil=>exact ⟨none,0,rfl,⟨fun _=>⟨rfl,rfl⟩,fun p h=>(by cases h)⟩⟩
 | sl _ _ a cap vs h1 h2 h3 h4 h5=>exact ⟨some a,cap,rfl,⟨fun h=>(by cases h),fun p h=>(by cases h;exact ⟨h1,h2,h3,vs,h4,h5⟩)⟩⟩
def qCk (T:Tr) (t sz:Nat):Bool:=match T.find t with
 | some i=>match i.kind with
  | .slice e=>match T.find e with
   | some ie=>Nat.beq ie.size sz
   | none=>false
  | _=>false
 | none=>false
theorem sliceElem_ok {P:Program} {T:Tr} (hT:TOk P T) {t sz:Nat} (h:qCk T t sz=true):∃ e ie,P.underlying t=some (.slice e)∧TypeAt P e ie∧ie.size=sz:=by
 unfold qCk at h
 split at h
 ·rename_i i hi
  split at h
  ·rename_i e hk
   split at h
   ·rename_i ie hie
    obtain ⟨d,hd,hkd⟩:=(hT.at hi).und
    rw [hk] at hkd
    cases d <;> simp [qCx] at hkd
    subst hkd
    exact ⟨e,ie,hd,hT.at hie,Nat.eq_of_beq_eq_true h⟩
   ·cases h
  ·cases h
 ·cases h
def qIe (T:Tr) (t:Nat):Bool:=match T.find t with
 | some i=>match i.kind with | .str=>true | _=>false
 | none=>false
theorem qDl {P:Program} {T:Tr} (hT:TOk P T) {t:Nat} (h:qIe T t=true):P.underlying t=some .string:=by
 unfold qIe at h
 split at h
 ·rename_i i hi
  split at h
  ·rename_i hk
   obtain ⟨d,hd,hkd⟩:=(hT.at hi).und
   rw [hk] at hkd
   cases d <;> simp [qCx] at hkd
   exact hd
  ·cases h
 ·cases h
def qFl (T:Tr) (t:Nat):Bool:=match T.find t with
 | some i=>match i.kind with | .slice _=>true | _=>false
 | none=>false
theorem qDp {P:Program} {T:Tr} (hT:TOk P T) {t:Nat} (h:qFl T t=true):∃ e,P.underlying t=some (.slice e):=by
 unfold qFl at h
 split at h
 ·rename_i i hi
  split at h
  ·rename_i e hk
   obtain ⟨d,hd,hkd⟩:=(hT.at hi).und
   rw [hk] at hkd
   cases d <;> simp [qCx] at hkd
   exact ⟨_,hd⟩
  ·cases h
 ·cases h
def qGq (T:Tr) (t:Nat):Option IntKind:=match T.find t with
 | some i=>match i.kind with | .int k=>some k | _=>none
 | none=>none
theorem qGn {P:Program} {T:Tr} (hT:TOk P T) {t:Nat} {k:IntKind} (h:qGq T t=some k):P.underlying t=some (.int k):=by
 unfold qGq at h
 split at h
 ·rename_i i hi
  split at h
  ·rename_i k' hk
   cases h
   obtain ⟨d,hd,hkd⟩:=(hT.at hi).und
   rw [hk] at hkd
   cases d <;> simp [qCx] at hkd
   rw [kEq_eq hkd];exact hd
  ·cases h
 ·cases h
def qVx (T:Tr) (t f:Nat):Option (Nat×Nat×Bool):=match T.find t with
 | some i=>match i.kind with
  | .struct fs=>fs[f]?
  | _=>none
 | none=>none
theorem fieldsOf_at {P:Program}:∀ {fields:List Field} {fs:List (Nat×Nat×Bool)} {f o s:Nat} {g:Bool},fieldsOf P fields fs=true→fs[f]?=some (o,s,g) →
  ∃ fd,fields[f]?=some fd∧fd.offset=o∧(∃ i,P.info? fd.type=some i∧i.size=s)∧∃ d,P.underlying fd.type=some d∧(match d with | .struct _ | .array _ _=>true | _=>false)=g
 | [],[],_,_,_,_,_,h=>by simp at h
 | fd::r,x::l,f,o,s,g,hf,h=>by
  obtain ⟨o',s',g'⟩:=x
  simp only [fieldsOf,Bool.and_eq_true] at hf
  obtain ⟨⟨⟨h1,h2⟩,h3⟩,h4⟩:=hf
  cases f with
  | zero =>
   simp only [List.getElem?_cons_zero,Option.some.injEq,Prod.mk.injEq] at h
   obtain ⟨rfl,rfl,rfl⟩:=h
   refine ⟨fd,by simp,Nat.eq_of_beq_eq_true h1,?_,?_⟩
   ·split at h2
    ·rename_i i hi;exact ⟨i,hi,Nat.eq_of_beq_eq_true h2⟩
    ·cases h2
   ·cases hu:P.underlying fd.type with
    | none=>simp [hu] at h3
    | some d=>refine ⟨d,rfl,?_⟩;cases d <;> simp_all
  | succ f =>
   obtain ⟨fd',h5,h6⟩:=fieldsOf_at h4 (by simpa using h)
   exact ⟨fd',by simpa using h5,h6⟩
 | [],_::_,_,_,_,_,h,_=>by simp [fieldsOf] at h
 | _::_,[],_,_,_,_,h,_=>by simp [fieldsOf] at h
theorem fieldT_ok {P:Program} {T:Tr} (hT:TOk P T) {t f o s:Nat} {g:Bool} (h:qVx T t f=some (o,s,g)) :
  ∃ fields fd,P.underlying t=some (.struct fields)∧fields[f]?=some fd∧fd.offset=o∧(∃ i,P.info? fd.type=some i∧i.size=s) ∧
   ∃ d,P.underlying fd.type=some d∧(match d with | .struct _ | .array _ _=>true | _=>false)=g:=by
 unfold qVx at h
 split at h
 ·rename_i i hi
  split at h
  ·rename_i fs hk
   obtain ⟨d,hd,hkd⟩:=(hT.at hi).und
   rw [hk] at hkd
   cases d <;> simp [qCx] at hkd
   rename_i fields
   obtain ⟨fd,h1,h2⟩:=fieldsOf_at hkd h
   exact ⟨fields,fd,hd,by simpa using h1,h2⟩
  ·cases h
 ·cases h
section ops
variable {P:Program} {T:Tr} {o:Oper} {ρ:Operand→AV} {v:AV}
theorem qZa {x:Operand} (ho:o.op=.move x∨o.op=.assign x):OpP P o ρ (ρ x):=by
 intro G e w hi hr
 have hx:RepA G (ρ x) (e x):=hr x (by rcases ho with ho | ho <;> simp [ho,Op.operands])
 refine ⟨e x,?_,hx⟩
 unfold execOp
 rcases ho with ho | ho <;> simp [ho]
def qSe (c a:AV):Option (AV×Prop):=match c with
 | .d (.bool c0)=>match a with
  | .gd g (.d (.bool x))=>some (.d (.bool (c0&&x)),c0=true→g=true)
  | .d (.bool x)=>some (.d (.bool (c0&&x)),True)
  | _=>none
 | _=>none
def qYx (c b:AV):Option (AV×Prop):=match c with
 | .d (.bool c0)=>match b with
  | .gd g (.d (.bool x))=>some (.d (.bool (c0||x)),c0=false→g=true)
  | .d (.bool x)=>some (.d (.bool (c0||x)),True)
  | _=>none
 | _=>none
theorem pickAnd_ok {c a:Operand} (hρ:∀ z,ρ (.const z)=qJx z) (ho:o.op=.pick c a (.const (.bool false))) {C:Prop} (h:qSe (ρ c) (ρ a)=some (v,C)) (hC:C):OpP P o ρ v:=by
 intro G e w hi hr
 have hc:RepA G (ρ c) (e c):=hr c (by simp [ho,Op.operands])
 have ha:RepA G (ρ a) (e a):=hr a (by simp [ho,Op.operands])
 have hb:RepA G (ρ (.const (.bool false))) (e (.const (.bool false))):=hr _ (by simp [ho,Op.operands])
 rw [hρ] at hb
 have hb':e (.const (.bool false))=.bool false:=RepA.bool_inv hb
 unfold execOp
 simp only [ho,Sem.run_bind]
 unfold qSe at h
 split at h
 ·rename_i c0 hce
  rw [hce] at hc
  rw [hc.bool_inv,hb']
  split at h
  ·rename_i g x hae
   rw [hae] at ha
   cases h
   cases c0 with
   | true=>exact ⟨_,rfl,ha.gd_inv (hC rfl)⟩
   | false=>exact ⟨_,rfl,.d (.bool _)⟩
  ·rename_i x hae
   rw [hae] at ha
   cases h
   cases c0 with
   | true=>exact ⟨_,rfl,ha⟩
   | false=>exact ⟨_,rfl,.d (.bool _)⟩
  ·cases h
 ·cases h
theorem pickOr_ok {c b:Operand} (hρ:∀ z,ρ (.const z)=qJx z) (ho:o.op=.pick c (.const (.bool true)) b) {C:Prop} (h:qYx (ρ c) (ρ b)=some (v,C)) (hC:C):OpP P o ρ v:=by
 intro G e w hi hr
 have hc:RepA G (ρ c) (e c):=hr c (by simp [ho,Op.operands])
 have ha:RepA G (ρ b) (e b):=hr b (by simp [ho,Op.operands])
 have hb:RepA G (ρ (.const (.bool true))) (e (.const (.bool true))):=hr _ (by simp [ho,Op.operands])
 rw [hρ] at hb
 have hb':e (.const (.bool true))=.bool true:=RepA.bool_inv hb
 unfold execOp
 simp only [ho,Sem.run_bind]
 unfold qYx at h
 split at h
 ·rename_i c0 hce
  rw [hce] at hc
  rw [hc.bool_inv,hb']
  split at h
  ·rename_i g x hae
   rw [hae] at ha
   cases h
   cases c0 with
   | true=>exact ⟨_,rfl,.d (.bool _)⟩
   | false=>exact ⟨_,rfl,ha.gd_inv (hC rfl)⟩
  ·rename_i x hae
   rw [hae] at ha
   cases h
   cases c0 with
   | true=>exact ⟨_,rfl,.d (.bool _)⟩
   | false=>exact ⟨_,rfl,ha⟩
  ·cases h
 ·cases h
def vEv:AV→Bool
 | .ptr _ _ | .iptr _ | .bp _ _ _=>true
 | .fn (.func _) _ _=>true
 | _=>false
theorem nilCheck_ok {x:Operand} (ho:o.op=.nilCheck x) (h:vEv (ρ x)=true):OpP P o ρ (ρ x):=by
 intro G e w hi hr
 have hx:RepA G (ρ x) (e x):=hr x (by simp [ho,Op.operands])
 refine ⟨e x,?_,hx⟩
 unfold execOp
 simp only [ho,Sem.run_bind]
 generalize ρ x=a at hx h
 generalize e x=u at hx
 cases hx with
 | ptr=>rfl
 | iptr=>rfl
 | bp=>rfl
 | fn f fs cs _ _ _ _=>cases f <;> simp [vEv] at h;rfl
 | _=>cases h
theorem makeFunc_ok {f:Fn} {first cap:Array Operand} (ho:o.op=.makeFunc f first cap):OpP P o ρ (.fn f (first.toList.map ρ) (cap.toList.map ρ)):=by
 intro G e w hi hr
 have hx:∀ x,x∈first.toList∨x∈cap.toList→RepA G (ρ x) (e x):=fun x hx=>hr x (by simp [ho,Op.operands];simpa using hx)
 refine ⟨.func f (first.map e) (cap.map e),?_,.fn f _ _ (by simp) (by simp) (fun j x v h1 h2=>?_) (fun j x v h1 h2=>?_)⟩
 ·unfold execOp;simp [ho,Instr.makeFunc]
 ·simp only [List.getElem?_map,Option.map_eq_some_iff,Array.getElem?_map,Array.getElem?_toList] at h1 h2
  obtain ⟨y,hy,rfl⟩:=h1
  obtain ⟨z,hz,rfl⟩:=h2
  rw [hy] at hz;cases hz
  exact hx y (.inl (List.mem_of_getElem? (by simpa using hy)))
 ·simp only [List.getElem?_map,Option.map_eq_some_iff,Array.getElem?_map,Array.getElem?_toList] at h1 h2
  obtain ⟨y,hy,rfl⟩:=h1
  obtain ⟨z,hz,rfl⟩:=h2
  rw [hy] at hz;cases hz
  exact hx y (.inr (List.mem_of_getElem? (by simpa using hy)))
def faddr (T:Tr) (t f:Nat) (x:AV):Option AV:=match qVx T t f with
 | some (o,s,_)=>match Nat.beq s 0 with
  | true=>none
  | false=>match x with
   | .ptr i off=>some (.ptr i (off+o))
   | .iptr cs=>some (.iptr (cs.drop o))
   | _=>none
 | none=>none
theorem qPq {G:Gh} {cs:List Dat} {v:Value} (h:RepA G (.iptr cs) v) (k:Nat):∃ a,v=.pointer (some a)∧RepA G (.iptr (cs.drop k)) (.pointer (some (a.add k))):=by
 cases h with
 | iptr a vs h1 h2 h3 =>
  refine ⟨a,rfl,.iptr _ (fun j=>vs (k+j)) (qFr a h1 k) (fun j d hd=>?_) (fun j d hd=>?_)⟩
  ·rw [qDw a h1];exact h2 _ d (by simpa using hd)
  ·exact h3 _ d (by simpa using hd)
theorem fieldAddr_ok (hT:TOk P T) {t f:Nat} {x:Operand} (ho:o.op=.fieldAddr t x f) (h:faddr T t f (ρ x)=some v):OpP P o ρ v:=by
 intro G e w hi hr
 have hx:RepA G (ρ x) (e x):=hr x (by simp [ho,Op.operands])
 unfold faddr at h
 split at h
 ·rename_i of s g hf
  obtain ⟨fields,fd,h1,h2,h3,⟨i,h4,h5⟩,h6⟩:=fieldT_ok hT hf
  split at h
  ·cases h
  ·rename_i hs
   have hs':¬ s=0:=fun hh=>by subst hh;simp at hs
   have hrun:∀ a:Addr,(Instr.fieldAt t (.pointer (some a)) f).run P w=.ok (.pointer (some (a.add of))) w:=by
    intro a
    simp [Instr.fieldAt,run_underlying h1,h2,Instr.sureAddr,fieldPlace,Go.sizeOf,typeInfo,h4,h5,hs',h3]
   unfold execOp
   simp only [ho,Sem.run_bind]
   split at h
   ·rename_i i' off hxe
    cases h
    rw [hxe] at hx
    obtain ⟨b,hb,hl⟩:=hx.ptr_inv
    rw [hb,hrun,qCr]
    exact ⟨_,rfl,.ptr _ hl⟩
   ·rename_i cs hxe
    cases h
    rw [hxe] at hx
    obtain ⟨a,ha,hra⟩:=qPq hx of
    rw [ha,hrun]
    exact ⟨_,rfl,hra⟩
   ·cases h
 ·cases h
def vEo (T:Tr) (t f:Nat) (x:AV):Option AV:=match qVx T t f with
 | some (o,s,g)=>match x with
  | .agg cs=>match g with
   | true=>match Nat.ble (o+s) cs.length with
    | true=>some (.agg ((cs.drop o).take s))
    | false=>none
   | false=>cs[o]?
  | _=>none
 | none=>none
theorem vCr (hT:TOk P T) {t f:Nat} {x:Operand} (ho:o.op=.field t x f) (h:vEo T t f (ρ x)=some v):OpP P o ρ v:=by
 intro G e w hi hr
 have hx:RepA G (ρ x) (e x):=hr x (by simp [ho,Op.operands])
 unfold vEo at h
 split at h
 ·rename_i of s g hf
  obtain ⟨fields,fd,h1,h2,h3,⟨i,h4,h5⟩,d,h6,h7⟩:=fieldT_ok hT hf
  split at h
  ·rename_i cs hxe
   rw [hxe] at hx
   generalize hu:e x=u at hx
   cases hx with
   | agg vs k1 k2 k3 =>
   have hagg:(isAgg fd.type).run P w=.ok g w:=by
    unfold isAgg
    rw [Sem.run_bind,run_underlying h6 w]
    cases d <;> simp_all
   unfold execOp
   simp only [ho,Sem.run_bind]
   split at h
   ·split at h
    ·rename_i hble
     have hle:of+s≤cs.length:=Nat.le_of_ble_eq_true hble
     cases h
     refine ⟨.agg (vs.extract of (of+s)),?_,.agg _ ?_ (fun j c y hc hy=>?_) (fun j y hy=>?_)⟩
     ·simp [Instr.field,hu,run_underlying h1,h2,asAgg,part,hagg,Go.sizeOf,typeInfo,h4,h5,h3]
     ·simp;omega
     ·simp only [List.getElem?_take,List.getElem?_drop,Array.getElem?_extract] at hc hy
      split at hc
      ·split at hy
       ·exact k2 _ c y hc hy
       ·cases hy
      ·cases hc
     ·simp only [Array.getElem?_extract] at hy
      split at hy
      ·exact k3 _ y hy
      ·cases hy
    ·cases h
   ·have hlt:of < vs.size:=by
     rw [k1]
     exact (List.getElem?_eq_some_iff.1 h).1
    obtain ⟨y,hy⟩:∃ y,vs[of]?=some y:=⟨vs[of],by simp [hlt]⟩
    refine ⟨y,?_,k2 _ _ _ h hy⟩
    simp [Instr.field,hu,run_underlying h1,h2,asAgg,part,hagg,h3,hy]
  ·cases h
 ·cases h
theorem indexAddr_ok (hT:TOk P T) {t sz:Nat} {x ix:Operand} {k:IntKind} {i:Int} {es:List (List Dat)} {el:List Dat} (ho:o.op=.indexAddr t x ix) (hs:qCk T t sz=true)
  (hx:vDc (ρ x)=some (sz,es)) (hix:ρ ix=.d (.int k i)) (h0:0≤i) (hel:es[i.toNat]?=some el):OpP P o ρ (.iptr el):=by
 intro G e w hi hr
 have hx':RepD G.imm (.sl sz es) (e x):=asEs_ok (hr x (by simp [ho,Op.operands])) hx
 have hix':RepA G (ρ ix) (e ix):=hr ix (by simp [ho,Op.operands])
 rw [hix] at hix'
 obtain ⟨et,ie,h1,h2,h3⟩:=sliceElem_ok hT hs
 obtain ⟨a,cap,hv,hn,hp⟩:=hx'.slice_inv
 have hlt:i.toNat < es.length:=(List.getElem?_eq_some_iff.1 hel).1
 cases a with
 | none=>have:=(hn rfl).1;subst this;simp at hlt
 | some p =>
  obtain ⟨p1,p2,p3,vs,p4,p5⟩:=hp p rfl
  have p1:=p1 (by omega)
  have hlti:i < (es.length:Int):=by omega
  refine ⟨.pointer (some (p.add (i.toNat*sz))),?_,.iptr _ (fun j=>vs (i.toNat*sz+j)) (qFr p p1 _) (fun j d hd=>?_) (fun j d hd=>p5 _ _ _ _ hel hd)⟩
  ·unfold execOp
   simp only [ho,Sem.run_bind]
   rw [hv,hix'.int_inv]
   simp [Instr.indexAt,asIntOf,run_underlying h1,h0,hlti,h2.run_size,h3]
  ·rw [qDw p p1];exact p4 _ _ _ _ hel hd
def qGa (s:List UInt8) (i:Int):Int:=((s[i.toNat]?.getD 0).toNat:Int)
def qNu (T:Tr) (t:Nat) (x ix:AV):Option (AV×Prop):=match x with
 | .d (.str s)=>match ix with
  | .d (.int _ i)=>match qIe T t with
   | true=>some (.d (.int .u8 (qGa s i)),0≤i∧i < (s.length:Int))
   | false=>none
  | _=>none
 | _=>none
theorem indexStr_ok (hT:TOk P T) {t:Nat} {x ix:Operand} (ho:o.op=.index t x ix) {C:Prop} (h:qNu T t (ρ x) (ρ ix)=some (v,C)) (hC:C):OpP P o ρ v:=by
 intro G e w hi hr
 have hx:RepA G (ρ x) (e x):=hr x (by simp [ho,Op.operands])
 have hix:RepA G (ρ ix) (e ix):=hr ix (by simp [ho,Op.operands])
 unfold qNu at h
 split at h
 ·rename_i s hxe
  split at h
  ·rename_i k i hie
   split at h
   ·rename_i hs
    cases h
    rw [hxe] at hx
    rw [hie] at hix
    have hu:=qDl hT hs
    refine ⟨.int .u8 (qGa s i),?_,.d (.int _ _)⟩
    unfold execOp
    simp only [ho,Sem.run_bind]
    rw [hx.str_inv,hix.int_inv]
    have hlt:i.toNat < s.length:=by omega
    have hg:(⟨s.toArray⟩:ByteArray)[i.toNat]?=some (s[i.toNat]):=by
     rw [getElem?_pos _ _ (by rw [qFq];exact hlt)]
     rfl
    simp [Instr.index,asIntOf,run_underlying hu,hC.1,hg,qGa,hlt]
   ·cases h
  ·cases h
 ·cases h
def qMv (ρ:Operand→AV):Option Operand→Option (Option Int)
 | none=>some none
 | some x=>match ρ x with
  | .d (.int _ i)=>some (some i)
  | _=>none
def qRp {α:Type} (s:List α) (l h:Int):List α:=(s.drop l.toNat).take (h.toNat-l.toNat)
def qYl (T:Tr) (t:Nat) (x:AV) (lo hi:Option Int):Option (AV×Prop):=match x with
 | .d (.str s)=>match qIe T t with
  | true=>match lo,hi with
   | none,none=>some (.d (.str s),True)
   | some l,none=>some (.d (.str (s.drop l.toNat)),0≤l∧l≤(s.length:Int))
   | none,some h=>some (.d (.str (s.take h.toNat)),0≤h∧h≤(s.length:Int))
   | some l,some h=>some (.d (.str (qRp s l h)),0≤l∧l≤h∧h≤(s.length:Int))
  | false=>none
 | x=>match vDc x with
  | some (sz,es)=>match qCk T t sz with
   | true=>match lo,hi with
    | none,none=>some (.d (.sl sz es),True)
    | some l,none=>some (.d (.sl sz (es.drop l.toNat)),0≤l∧l≤(es.length:Int))
    | none,some h=>some (.d (.sl sz (es.take h.toNat)),0≤h∧h≤(es.length:Int))
    | some l,some h=>some (.d (.sl sz (qRp es l h)),0≤l∧l≤h∧h≤(es.length:Int))
   | false=>none
  | none=>none
end ops
theorem RepD.cut {m:Addr→Option Value} {sz:Nat} {es:List (List Dat)} {a:Option Addr} {len cap:Nat} (h:RepD m (.sl sz es) (.slice a len cap)) {l r:Nat} (hl:l≤r) (hr:r≤len) :
  RepD m (.sl sz ((es.drop l).take (r-l))) (.slice (if cap=l then a else a.map (·.add (l*sz))) (r-l) (cap-l)):=by
 cases h with
 | nil =>
  obtain rfl:r=0:=by omega
  obtain rfl:l=0:=by omega
  exact .nil sz
 | sl _ _ p _ vs h1 h2 h3 h4 h5 =>
  have hlen:((es.drop l).take (r-l)).length=r-l:=by simp;omega
  by_cases hc:cap=l
  ·have:(es.drop l).take (r-l)=[]:=by
    apply List.eq_nil_of_length_eq_zero;rw [hlen];omega
   rw [if_pos hc,this]
   have h0:r-l=([]:List (List Dat)).length:=by simp;omega
   rw [h0]
   exact .sl sz [] p _ vs (fun hh=>absurd hh (by omega)) (by simp) (fun e he=>by cases he) (fun i e j d he=>by simp at he) (fun i e j d he=>by simp at he)
  ·have h1:=h1 (by omega)
   rw [if_neg hc]
   simp only [Option.map_some]
   rw [show r-l=((es.drop l).take (r-l)).length from hlen.symm]
   rw [show ((es.drop l).take ((es.drop l).take (r-l)).length)=(es.drop l).take (r-l) by rw [hlen]]
   refine .sl sz _ (p.add (l*sz)) _ (fun i=>vs (l*sz+i)) (fun _=>qFr p h1 _) (by rw [hlen];omega) (fun e he=>h3 e (List.mem_of_mem_drop (List.mem_of_mem_take he))) (fun i e j d he hd=>?_) (fun i e j d he hd=>?_)
   ·simp only [List.getElem?_take,List.getElem?_drop] at he
    split at he
    ·rw [qDw p h1]
     have:=h4 (l+i) e j d he hd
     rwa [show (l+i)*sz+j=l*sz+(i*sz+j) by rw [Nat.add_mul];omega] at this
    ·cases he
   ·simp only [List.getElem?_take,List.getElem?_drop] at he
    split at he
    ·have:=h5 (l+i) e j d he hd
     rwa [show (l+i)*sz+j=l*sz+(i*sz+j) by rw [Nat.add_mul];omega] at this
    ·cases he
section ops
variable {P:Program} {T:Tr} {o:Oper} {ρ:Operand→AV} {v:AV}
theorem optInt_some {G:Gh} {e:Operand→Value} {x:Option Operand} {r:Option Int} (hr:∀ y,x=some y→RepA G (ρ y) (e y)) (h:qMv ρ x=some r) :
  (x=none∧r=none)∨∃ y k i,x=some y∧r=some i∧e y=.int k i:=by
 unfold qMv at h
 split at h
 ·cases h;exact .inl ⟨rfl,rfl⟩
 ·rename_i y
  split at h
  ·rename_i k i hy
   cases h
   have:=hr y rfl
   rw [hy] at this
   exact .inr ⟨y,k,i,rfl,rfl,this.int_inv⟩
  ·cases h
theorem qAw {w:World} (k:IntKind) (i:Int) (y:Nat) (code:BoundsCode) (h:0≤i∧i≤(y:Int)):(Instr.sliceBound (.int k i) y code).run P w=.ok i.toNat w:=by
 simp [Instr.sliceBound,asIntOf,h]
theorem sliceA_ok (hT:TOk P T) {t:Nat} {x:Operand} {lo hi:Option Operand} (ho:o.op=.slice t x lo hi none) {l h:Option Int} (hl:qMv ρ lo=some l) (hh:qMv ρ hi=some h) {C:Prop}
  (hv:qYl T t (ρ x) l h=some (v,C)) (hC:C):OpP P o ρ v:=by
 intro G e w hi' hr
 have hx:RepA G (ρ x) (e x):=hr x (by simp [ho,Op.operands])
 have hlo:=optInt_some (G:=G) (e:=e) (fun y hy=>hr y (by simp [ho,Op.operands,hy])) hl
 have hhi:=optInt_some (G:=G) (e:=e) (fun y hy=>hr y (by simp [ho,Op.operands,hy])) hh
 unfold execOp
 simp only [ho,Sem.run_bind]
 unfold qYl at hv
 split at hv
 ·rename_i s hxe
  rw [hxe] at hx
  rw [hx.str_inv]
  split at hv
  ·rename_i hst
   have hu:=qDl hT hst
   have hext:∀ a b:Nat,(⟨s.toArray⟩:ByteArray).extract a b=⟨((s.drop a).take (b-a)).toArray⟩:=by
    intro a b
    apply ByteArray.ext
    simp [ByteArray.data_extract]
   rcases hlo with ⟨rfl,rfl⟩ | ⟨ly,lk,li,rfl,rfl,hly⟩ <;> rcases hhi with ⟨rfl,rfl⟩ | ⟨hy,hk,hi2,rfl,rfl,hhy⟩
   ·simp only at hv;cases hv
    refine ⟨.string ⟨s.toArray⟩,?_,.d (.str _)⟩
    simp [Instr.sliceAt,Instr.slice,run_underlying hu,Instr.sliceBounds,hext,qFq]
   ·simp only at hv;cases hv
    refine ⟨.string ⟨(s.take hi2.toNat).toArray⟩,?_,.d (.str _)⟩
    simp [Instr.sliceAt,Instr.slice,run_underlying hu,Instr.sliceBounds,hext,qFq,hhy,qAw _ _ _ _ hC]
   ·simp only at hv;cases hv
    refine ⟨.string ⟨(s.drop li.toNat).toArray⟩,?_,.d (.str _)⟩
    have htk:List.take (s.length-li.toNat) (List.drop li.toNat s)=List.drop li.toNat s:=List.take_of_length_le (by simp)
    simp [Instr.sliceAt,Instr.slice,run_underlying hu,Instr.sliceBounds,hext,qFq,hly,qAw _ _ _ _ hC,htk]
   ·simp only at hv;cases hv
    refine ⟨.string ⟨(qRp s li hi2).toArray⟩,?_,.d (.str _)⟩
    have h1:0≤hi2∧hi2≤(s.length:Int):=by omega
    have h2:0≤li∧li≤(hi2.toNat:Int):=by omega
    simp [Instr.sliceAt,Instr.slice,run_underlying hu,Instr.sliceBounds,hext,qFq,hly,hhy,qAw _ _ _ _ h1,qAw _ _ _ _ h2,qRp]
  ·cases hv
 ·split at hv
  ·rename_i sz es hes
   split at hv
   ·rename_i hse
    obtain ⟨et,ie,h1,h2,h3⟩:=sliceElem_ok hT hse
    have hx':=asEs_ok hx hes
    obtain ⟨a,cap,hvv,hn,hp⟩:=hx'.slice_inv
    have hcap:es.length≤cap:=by
     cases a with
     | none=>have:=hn rfl;rw [this.1,this.2];simp
     | some p=>exact (hp p rfl).2.1
    rw [hvv] at hx' ⊢
    rcases hlo with ⟨rfl,rfl⟩ | ⟨ly,lk,li,rfl,rfl,hly⟩ <;> rcases hhi with ⟨rfl,rfl⟩ | ⟨hy,hk,hi2,rfl,rfl,hhy⟩
    ·simp only at hv;cases hv
     refine ⟨_,?_,.d (by have:=hx'.cut (l:=0) (r:=es.length) (by omega) (Nat.le_refl _);simpa using this)⟩
     simp [Instr.sliceAt,Instr.slice,run_underlying h1,Instr.sliceBounds,h2.run_size,h3]
    ·simp only at hv;cases hv
     have hb:0≤hi2∧hi2≤(cap:Int):=by omega
     refine ⟨_,?_,.d (by have:=hx'.cut (l:=0) (r:=hi2.toNat) (by omega) (by omega);simpa using this)⟩
     simp [Instr.sliceAt,Instr.slice,run_underlying h1,Instr.sliceBounds,h2.run_size,h3,hhy,qAw _ _ _ _ hb]
    ·simp only at hv;cases hv
     refine ⟨_,?_,.d (by have:=hx'.cut (l:=li.toNat) (r:=es.length) (by omega) (by omega);rw [List.take_of_length_le (by simp)] at this;exact this)⟩
     simp [Instr.sliceAt,Instr.slice,run_underlying h1,Instr.sliceBounds,h2.run_size,h3,hly,qAw _ _ _ _ hC]
    ·simp only at hv;cases hv
     have hb:0≤hi2∧hi2≤(cap:Int):=by omega
     have hb2:0≤li∧li≤(hi2.toNat:Int):=by omega
     refine ⟨_,?_,.d (hx'.cut (l:=li.toNat) (r:=hi2.toNat) (by omega) (by omega))⟩
     simp [Instr.sliceAt,Instr.slice,run_underlying h1,Instr.sliceBounds,h2.run_size,h3,hly,hhy,qAw _ _ _ _ hb,qAw _ _ _ _ hb2]
   ·cases hv
  ·cases hv
def vIx (T:Tr) (t:Nat) (x:AV):Option AV:=match x with
 | .d (.str s)=>match qIe T t with
  | true=>some (.d (.int .i64 (s.length:Int)))
  | false=>none
 | .nils=>match qFl T t with
  | true=>some (.d (.int .i64 0))
  | false=>none
 | .bm _ n=>match qFl T t with
  | true=>some (.d (.int .i64 (n:Int)))
  | false=>none
 | .row _ _ n _=>match qFl T t with
  | true=>some (.d (.int .i64 (n:Int)))
  | false=>none
 | x=>match vDc x with
  | some (_,es)=>match qFl T t with
   | true=>some (.d (.int .i64 (es.length:Int)))
   | false=>none
  | none=>none
theorem lenA_ok (hT:TOk P T) {t:Nat} {x:Operand} (ho:o.op=.call { callee:=.builtin .len,args:=#[x],argTypes:=#[t] }) (h:vIx T t (ρ x)=some v):OpP P o ρ v:=by
 intro G e w hi hr
 have hx:RepA G (ρ x) (e x):=hr x (by simp [ho,Op.operands,Call.operands])
 unfold execOp
 simp only [ho,Sem.run_bind,resolve,invoke,builtin]
 unfold vIx at h
 split at h
 ·rename_i s hxe
  rw [hxe] at hx
  split at h
  ·rename_i hs;cases h
   have hu:=qDl hT hs
   refine ⟨.int .i64 (s.length:Int),?_,.d (.int _ _)⟩
   simp [Builtin.len_,hx.str_inv,run_underlying hu,goInt,qFq]
  ·cases h
 ·rename_i hxe
  rw [hxe] at hx
  split at h
  ·rename_i hs;cases h
   obtain ⟨et,hu⟩:=qDp hT hs
   refine ⟨.int .i64 0,?_,.d (.int _ _)⟩
   generalize hv:e x=u at hx
   cases hx
   simp [Builtin.len_,hv,run_underlying hu,goInt]
  ·cases h
 ·rename_i n hxe
  rw [hxe] at hx
  split at h
  ·rename_i hs;cases h
   obtain ⟨et,hu⟩:=qDp hT hs
   refine ⟨.int .i64 (n:Int),?_,.d (.int _ _)⟩
   generalize hv:e x=u at hx
   cases hx
   simp [Builtin.len_,hv,run_underlying hu,goInt]
  ·cases h
 ·rename_i n _ hxe
  rw [hxe] at hx
  split at h
  ·rename_i hs;cases h
   obtain ⟨et,hu⟩:=qDp hT hs
   refine ⟨.int .i64 (n:Int),?_,.d (.int _ _)⟩
   generalize hv:e x=u at hx
   cases hx
   simp [Builtin.len_,hv,run_underlying hu,goInt]
  ·cases h
 ·split at h
  ·rename_i sz es hes
   split at h
   ·rename_i hs;cases h
    obtain ⟨et,hu⟩:=qDp hT hs
    obtain ⟨a,cap,hv,_⟩:=(asEs_ok hx hes).slice_inv
    refine ⟨.int .i64 (es.length:Int),?_,.d (.int _ _)⟩
    simp [Builtin.len_,hv,run_underlying hu,goInt]
   ·cases h
  ·cases h
def qZd (T:Tr) (t:Nat) (cs:List Dat):Option AV:=match T.find t with
 | some i=>match i.agg with
  | true=>match Nat.ble i.size cs.length with
   | true=>some (.agg ((cs.take i.size).map .d))
   | false=>none
  | false=>match cs[0]? with
   | some d=>some (.d d)
   | none=>none
 | none=>none
theorem loadI_ok (hT:TOk P T) {t:Nat} {x:Operand} {cs:List Dat} (ho:o.op=.load t x) (hx:ρ x=.iptr cs) (h:qZd T t cs=some v):OpP P o ρ v:=by
 intro G e w hi hr
 have hx':RepA G (ρ x) (e x):=hr x (by simp [ho,Op.operands])
 rw [hx] at hx'
 generalize hu:e x=u at hx'
 cases hx' with
 | iptr a vs h1 h2 h3 =>
 unfold execOp
 simp only [ho,Sem.run_bind,Instr.loadAt,hu,Instr.sureAddr]
 unfold qZd at h
 split at h
 ·rename_i i hf
  have hti:=hT.at hf
  split at h
  ·rename_i hagg
   split at h
   ·rename_i hble
    have hle:=Nat.le_of_ble_eq_true hble
    cases h
    have hl:(loadCells a i.size).run P w=.ok ((List.range i.size).map vs).toArray w:=by
     refine run_loadCells (P:=P) w a i.size vs (fun j hj=>?_)
     have:cs[j]?=some cs[j]:=by simp [show j < cs.length by omega]
     exact hi _ _ (h2 j _ this)
    refine ⟨.agg ((List.range i.size).map vs).toArray,?_,.agg _ (by simp;omega) (fun j c y hc hy=>?_) (fun j y hy=>?_)⟩
    ·simp [loadVar,hti.run_agg,hagg,hti.run_size,hl]
    ·simp only [List.getElem?_map,Option.map_eq_some_iff,List.getElem?_take] at hc
     obtain ⟨d,hd,rfl⟩:=hc
     split at hd
     ·rename_i hj
      simp [hj] at hy
      subst hy
      exact .d (h3 j d hd)
     ·cases hd
    ·by_cases hj:j < i.size
     ·simp [hj] at hy
      subst hy
      have:cs[j]?=some cs[j]:=by simp [show j < cs.length by omega]
      exact (h3 j _ this).one
     ·simp [hj] at hy
   ·cases h
  ·rename_i hagg
   split at h
   ·rename_i d hd
    cases h
    have hc:=hi _ _ (h2 0 d hd)
    refine ⟨vs 0,?_,.d (h3 0 d hd)⟩
    have ha0:a.add 0=a:=by simp [Addr.add]
    rw [ha0] at hc
    simp [loadVar,hti.run_agg,hagg,hc]
   ·cases h
 ·cases h
def qNz (n:Nat) (x:AV):Option AV:=match x with
 | .tup vs=>vs[n]?
 | _=>none
theorem extractA_ok {x:Operand} {n:Nat} (ho:o.op=.extract x n) (h:qNz n (ρ x)=some v):OpP P o ρ v:=by
 intro G e w hi hr
 have hx:RepA G (ρ x) (e x):=hr x (by simp [ho,Op.operands])
 unfold execOp
 simp only [ho,Sem.run_bind]
 unfold qNz at h
 split at h
 ·rename_i vs hxe
  rw [hxe] at hx
  generalize hu:e x=u at hx
  cases hx with
  | tup us h1 h2 =>
  have hlt:n < us.size:=by rw [h1];exact (List.getElem?_eq_some_iff.1 h).1
  have hg:us[n]?=some us[n]:=by simp [hlt]
  exact ⟨us[n],by simp [Instr.extract,hg],h2 n v _ h hg⟩
 ·cases h
def vEq:List Dat→Int
 | [.int _ n]=>n
 | _=>0
def qTc (es:List (List Dat)):List UInt8:=es.map fun e=>UInt8.ofNat (vEq e).toNat
def vAa (es:List (List Dat)):Prop:=∀ e,e∈es→∃ n:Int,e=[.int .u8 n]
def qFm (T:Tr) (t:Nat):Bool:=match T.find t with
 | some i=>match i.kind with
  | .slice e=>match T.find e with
   | some ie=>match ie.kind with
    | .int .u8=>true
    | _=>false
   | none=>false
  | _=>false
 | none=>false
theorem isByteSlice_ok (hT:TOk P T) {t:Nat} (h:qFm T t=true):∃ e,P.underlying t=some (.slice e)∧P.underlying e=some (.int .u8):=by
 unfold qFm at h
 split at h
 ·rename_i i hi
  split at h
  ·rename_i e hk
   split at h
   ·rename_i ie hie
    split at h
    ·rename_i hke
     obtain ⟨d,hd,hkd⟩:=(hT.at hi).und
     rw [hk] at hkd
     cases d <;> simp [qCx] at hkd
     subst hkd
     obtain ⟨d2,hd2,hkd2⟩:=(hT.at hie).und
     rw [hke] at hkd2
     cases d2 <;> simp [qCx] at hkd2
     rw [← kEq_eq hkd2] at hd2
     exact ⟨e,hd,hd2⟩
    ·cases h
   ·cases h
  ·cases h
 ·cases h
def vFy (T:Tr) (s t:Nat) (x:AV):Option (AV×Prop):=match x with
 | .d (.int _ n)=>match qGq T t with
  | some k=>match qGq T s with
   | some _=>some (.d (.int k (k.wrap n)),True)
   | none=>none
  | none=>none
 | .d (.str b)=>match qIe T s&&qIe T t with
  | true=>some (.d (.str b),True)
  | false=>none
 | x=>match vDc x with
  | some (_,es)=>match qFm T s&&qIe T t with
   | true=>some (.d (.str (qTc es)),vAa es)
   | false=>none
  | none=>none
theorem qXd (ns:List Int):∀ (s:ByteArray),ns.foldl (fun r n=>r.push (UInt8.ofNat n.toNat)) s=⟨(s.data.toList++ns.map fun n=>UInt8.ofNat n.toNat).toArray⟩:=by
 induction ns with
 | nil=>intro s;obtain ⟨⟨l⟩⟩:=s;simp
 | cons n ns ih =>
  intro s
  obtain ⟨⟨l⟩⟩:=s
  simp only [List.foldl_cons,ih,List.map_cons]
  simp [ByteArray.push]
theorem convA_ok (hT:TOk P T) {s t:Nat} {x:Operand} (ho:o.op=.convert s t x) {C:Prop} (h:vFy T s t (ρ x)=some (v,C)) (hC:C):OpP P o ρ v:=by
 intro G e w hi hr
 have hx:RepA G (ρ x) (e x):=hr x (by simp [ho,Op.operands])
 unfold execOp
 simp only [ho,Sem.run_bind]
 unfold vFy at h
 split at h
 ·rename_i k n hxe
  rw [hxe] at hx
  split at h
  ·rename_i k' hk
   split at h
   ·rename_i k2 hk2
    cases h
    refine ⟨.int k' (k'.wrap n),?_,.d (.int _ _)⟩
    simp [Go.convert,run_underlying (qGn hT hk),run_underlying (qGn hT hk2),hx.int_inv,Conv.intToInt]
   ·cases h
  ·cases h
 ·rename_i b hxe
  rw [hxe] at hx
  split at h
  ·rename_i hs
   simp only [Bool.and_eq_true] at hs
   cases h
   refine ⟨.string ⟨b.toArray⟩,?_,.d (.str _)⟩
   simp [Go.convert,run_underlying (qDl hT hs.1),run_underlying (qDl hT hs.2),hx.str_inv]
  ·cases h
 ·split at h
  ·rename_i sz es hes
   split at h
   ·rename_i hs
    simp only [Bool.and_eq_true] at hs
    cases h
    obtain ⟨et,h1,h2⟩:=isByteSlice_ok hT hs.1
    have h3:=qDl hT hs.2
    obtain ⟨a,cap,hv,hn,hp⟩:=(asEs_ok hx hes).slice_inv
    rw [hv]
    cases a with
    | none =>
     obtain ⟨rfl,rfl⟩:=hn rfl
     refine ⟨.string .empty,?_,.d (.str [])⟩
     simp [Go.convert,run_underlying h1,run_underlying h2,run_underlying h3,Conv.bytesToString]
    | some p =>
     obtain ⟨p1,p2,p3,vs,p4,p5⟩:=hp p rfl
     have hb:∀ i:Nat,(hlt:i < es.length)→∃ n:Int,es[i]?=some [Dat.int .u8 n]∧vs (i*sz)=.int .u8 n∧w.cell? (p.add (i*sz))=some (.int .u8 n):=by
      intro i hlt
      have he:es[i]?=some es[i]:=by simp [hlt]
      obtain ⟨n,hn'⟩:=hC _ (List.mem_of_getElem? he)
      rw [hn'] at he
      have hr':=p5 i _ 0 _ he rfl
      have hm:=hi _ _ (p4 i _ 0 _ he rfl)
      simp only [Nat.add_zero] at hr' hm
      have:vs (i*sz)=.int .u8 n:=by generalize vs (i*sz)=q at hr';cases hr';rfl
      exact ⟨n,he,this,by rw [this] at hm;exact hm⟩
     have hsz:es≠[]→sz=1:=by
      intro hne
      obtain ⟨e0,he0⟩:=List.exists_mem_of_ne_nil _ hne
      obtain ⟨n,hn'⟩:=hC _ he0
      have:=p3 _ he0
      rw [hn'] at this
      simpa using this.symm
     let ns:List Int:=es.map vEq
     have hnl:ns.length=es.length:=by simp [ns]
     have hni:∀ (i:Nat) (n:Int),es[i]?=some [Dat.int .u8 n]→ns[i]?=some n:=by
      intro i n he;simp [ns,he,vEq]
     have hl:(loadCells p es.length).run P w=.ok (ns.map (Value.int .u8)).toArray w:=by
      have:=run_loadCells (P:=P) w p es.length (fun j=>Value.int .u8 (ns.getD j 0)) (fun j hj=>by
       obtain ⟨n,g1,g2,g3⟩:=hb j hj
       have hz:=hsz (by intro h0;rw [h0] at hj;simp at hj)
       rw [hz,Nat.mul_one] at g3
       rw [g3];simp [List.getD,hni j n g1])
      rw [this]
      congr 2
      apply List.ext_getElem?
      intro j
      by_cases hj:j < es.length
      ·have hj':j < ns.length:=by omega
       simp [hj,hj',List.getD]
      ·have hj':¬ j < ns.length:=by omega
       simp [hj,hj',List.getElem?_eq_none (Nat.le_of_not_lt hj')]
     refine ⟨_,?_,.d (.str _)⟩
     simp [Go.convert,run_underlying h1,run_underlying h2,run_underlying h3,run_bytesToString w p es.length cap ns hl,qXd,qTc,ns]
   ·cases h
  ·cases h
end ops
def OpS (P:Program) (E:Env) (o:Oper) (ρ:Operand→AV) (h:List AObj) (v:AV) (h':List AObj):Prop :=
 ∀ (G:Gh) (a:Act) (w:World),WRel E G h w→(∀ x,x∈o.op.operands.toList→RepA G (ρ x) (a.eval x)) →
  o.wp P a w (fun a' w'=>∃ u G',a'=a.put o.dst u∧G.le G'∧WRel E G' h' w'∧RepA G' v u) (fun _ _ _=>False)
section
variable {P:Program} {E:Env} {o:Oper} {ρ:Operand→AV} {h h':List AObj} {v:AV}
theorem qBv (H:∀ (G:Gh) (e:Operand→Value) (w:World),WRel E G h w→(∀ x,x∈o.op.operands.toList→RepA G (ρ x) (e x)) →
  ∃ u w' G',(execOp e o).run P w=.ok (.value u) w'∧G.le G'∧WRel E G' h' w'∧RepA G' v u):OpS P E o ρ h v h':=by
 intro G a w hw hr
 obtain ⟨u,w',G',h1,h2,h3,h4⟩:=H G a.eval w hw hr
 unfold Oper.wp
 rw [h1]
 exact ⟨u,G',rfl,h2,h3,h4⟩
theorem qLs (H:∀ (G:Gh) (e:Operand→Value) (w:World),WRel E G h w→(∀ x,x∈o.op.operands.toList→RepA G (ρ x) (e x)) →
  ∃ w' G',(execOp e o).run P w=.ok .skip w'∧G.le G'∧WRel E G' h' w'):OpS P E o ρ h .any h':=by
 intro G a w hw hr
 obtain ⟨w',G',h1,h2,h3⟩:=H G a.eval w hw hr
 unfold Oper.wp
 rw [h1]
 exact ⟨undef,G',rfl,h2,h3,.any _⟩
theorem qAe (H:OpP P o ρ v):OpS P E o ρ h v h :=
 qBv fun G e w hw hr=>by
  obtain ⟨u,h1,h2⟩:=H G e w hw.imm hr
  exact ⟨u,w,G,h1,.refl G,hw,h2⟩
theorem RowAt.keep {G G':Gh} {w w':World} {b:Nat} {cells:List AV} (hle:G.le G') (hb:w'.heap[b]?=w.heap[b]?) (hr:RowAt G w b cells):RowAt G' w' b cells:=by
 intro j c hj
 obtain ⟨v,h1,h2,h3,h4⟩:=hr j c hj
 exact ⟨v,by rw [World.cell?_of_block (w:=w) hb];exact h1,h2,h3.mono hle,by rw [World.frozen?_of_block (w:=w) hb];exact h4⟩
theorem BufOk.trans {G G':Gh} {w w':World} {i i' sz n cap:Nat} {cells cells':List AV} {a:Option Addr} (h:BufOk G w i sz n cap cells a) (hlen:cells'.length=cells.length)
  (hs:∀ b,G.own b=some i→G'.own b=some i'∧w'.heap[b]?=w.heap[b]?∧∀ x:Addr,x.block=b→G.imm x=none→G'.imm x=none)
  (hc:∀ (j:Nat) (c':AV),cells'[j]?=some c'→∃ c,cells[j]?=some c∧∀ v,RepA G c v→RepA G' c' v):BufOk G' w' i' sz n cap cells' a:=by
 obtain ⟨h1,h2,h3,h4⟩:=h
 refine ⟨by rw [hlen];exact h1,h2,h3,fun p hp hc0=>?_⟩
 obtain ⟨q1,q2,q3,q4⟩:=h4 p hp hc0
 obtain ⟨k1,k2,k3⟩:=hs _ q2
 have hb:∀ j,w'.heap[(p.add j).block]?=w.heap[(p.add j).block]?:=fun j=>by rw [qCs];exact k2
 refine ⟨q1,k1,fun j c' hj=>?_,fun j hj=>?_⟩
 ·obtain ⟨c,hcj,hr⟩:=hc j c' hj
  obtain ⟨v,r1,r2,r3⟩:=q3 j c hcj
  exact ⟨v,by rw [World.cell?_of_block (w:=w) (hb j)];exact r1,r2,hr v r3⟩
 ·obtain ⟨⟨v,r1⟩,r2,r3⟩:=q4 j hj
  exact ⟨⟨v,by rw [World.cell?_of_block (w:=w) (hb j)];exact r1⟩,by rw [World.frozen?_of_block (w:=w) (hb j)];exact r2,k3 _ (qCs p j) r3⟩
theorem ObjRel.keep {G G':Gh} {w w':World} {i:Nat} {ob:AObj} (hle:G.le G') (hs:∀ b,G.own b=some i→w'.heap[b]?=w.heap[b]?∧∀ a:Addr,a.block=b→G'.imm a=G.imm a)
  (hrt:∀ n,G.rt i n=none→G'.rt i n=none) (hlc:G.loc i=none→G'.loc i=none) (hr:ObjRel G w i ob):ObjRel G' w' i ob:=by
 cases ob with
 | dead=>trivial
 | room=>exact ⟨hlc hr.1,fun n=>hrt n (hr.2 n)⟩
 | opq R =>
  obtain ⟨b,S,h1,h2,h3,h4,h5,h6⟩:=hr
  exact ⟨b,S,hle.loc _ _ h1,h2,fun n=>hrt n (h3 n),fun k hk=>⟨hle.own _ _ (h4 k hk).1,fun a ha=>by rw [(hs k (h4 k hk).1).2 a ha];exact (h4 k hk).2 a ha⟩,h6 _ _ (fun k hk=>(hs k (h4 k hk).1).1.symm) h5,h6⟩
 | row cells =>
  obtain ⟨b,h1,h2,h3,h4⟩:=hr
  have hk:=hs b h2
  exact ⟨b,hle.loc _ _ h1,hle.own _ _ h2,h3.keep hle hk.1,fun a ha=>by rw [hk.2 a ha];exact h4.1 a ha,fun n=>hrt n (h4.2 n)⟩
 | buf sz n cells =>
  obtain ⟨a,cap,h1,h2,h3⟩:=hr
  exact ⟨a,cap,hle.rt _ _ _ h1,fun n' hn=>hrt _ (h2 n' hn),h3.trans rfl (fun b hb=>⟨hle.own _ _ hb,(hs b hb).1,fun x hx hn=>by rw [(hs b hb).2 x hx];exact hn⟩) (fun j c hj=>⟨c,hj,fun v hv=>hv.mono hle⟩)⟩
 | right sz n =>
  obtain ⟨a,cap,h1,h2,h3,h4⟩:=hr
  refine ⟨a,cap,hle.rt _ _ _ h1,h2,fun n' hn=>hrt _ (h3 n' hn),fun hlt=>?_⟩
  obtain ⟨p,q1,q2,q3,q4⟩:=h4 hlt
  have hk:=hs _ q3
  refine ⟨p,q1,q2,hle.own _ _ q3,fun j hj1 hj2=>?_⟩
  obtain ⟨⟨v,r1⟩,r2,r3⟩:=q4 j hj1 hj2
  have hb:w'.heap[(p.add j).block]?=w.heap[(p.add j).block]?:=by rw [qCs];exact hk.1
  exact ⟨⟨v,by rw [World.cell?_of_block (w:=w) hb];exact r1⟩,by rw [World.frozen?_of_block (w:=w) hb];exact r2,by rw [hk.2 _ (qCs p j)];exact r3⟩
def qLh (G:Gh) (b n:Nat) (cs:Array Value):Gh :=
 { G with imm:=fun a=>if a.block=b then (if a.spot=none∧a.off < n then cs[a.off]? else none) else G.imm a }
theorem qBi (w:World) (ob:Obj) (i:Nat) (h:i < w.heap.size):(w.heap.push ob)[i]?=w.heap[i]?:=by
 rw [Array.getElem?_push,if_neg (by omega)]
theorem immExt_le {E:Env} {G:Gh} {h:List AObj} {w:World} (hw:WRel E G h w) (n:Nat) (cs:Array Value):G.le (qLh G w.heap.size n cs):=by
 refine ⟨fun a v ha=>?_,fun _ _ x=>x,fun _ _ _ x=>x,fun _ _ x=>x⟩
 have hlt:=World.block_lt_of_cell? _ _ (hw.imm a v ha)
 show (if a.block=w.heap.size then _ else G.imm a)=some v
 rw [if_neg (by omega)];exact ha
theorem WRel.newImm {E:Env} {G:Gh} {h:List AObj} {w:World} (hw:WRel E G h w) (n:Nat) (cs:Array Value) (t:TypeId) (w':World) (hh:w'.heap=w.heap.push (.cells cs t)) (ho:w'.os=w.os) (ht:w'.tape=w.tape) (hout:w'.output=w.output) :
  WRel E (qLh G w.heap.size n cs) h w':=by
 have hle:=immExt_le hw n cs
 have hK:¬ E.K w.heap.size:=fun hk=>by have:=hw.size;have:=hk.1;omega
 refine ⟨hw.le.trans hle,fun a v ha=>?_,fun a v ha=>?_,fun b hb=>?_,by rw [hh];simp;have:=hw.size;omega,ho.trans hw.os,ht.trans hw.tape,hout.trans hw.output,fun b i hb=>?_,hw.fresh,fun i ob hi=>?_⟩
 ·have ha':(if a.block=w.heap.size then (if a.spot=none∧a.off < n then cs[a.off]? else none) else G.imm a)=some v:=ha
  split at ha'
  ·rename_i hb
   split at ha'
   ·rename_i hs
    simp only [World.cell?,hh,hb,Array.getElem?_push,if_true,hs.1]
    simpa using ha'
   ·cases ha'
  ·have hc:=hw.imm a v ha'
   have hlt:=World.block_lt_of_cell? _ _ hc
   rw [World.cell?_of_block (w:=w) (by rw [hh];exact qBi _ _ _ hlt)]
   exact hc
 ·have ha':(if a.block=w.heap.size then (if a.spot=none∧a.off < n then cs[a.off]? else none) else G.imm a)=some v:=ha
  split at ha'
  ·rename_i hb;right;rw [hb];exact hK
  ·exact hw.immNew a v ha'
 ·rw [hh,qBi _ _ _ (Nat.lt_of_lt_of_le hb.1 hw.size)];exact hw.keep b hb
 ·have:=hw.own b i hb
  exact ⟨by rw [hh];simp;omega,this.2⟩
 ·refine (hw.obj i ob hi).keep hle (fun b hb=>?_) (fun n hn=>hn) (fun hn=>hn)
  have hlt:=(hw.own b i hb).1
  refine ⟨by rw [hh];exact qBi _ _ _ hlt,fun a ha=>?_⟩
  show (if a.block=w.heap.size then _ else G.imm a)=G.imm a
  rw [if_neg (by omega)]
def qFv (G:Gh) (i b:Nat):Gh :=
 { G with loc:=fun j=>if j=i then some b else G.loc j,own:=fun c=>if c=b then some i else G.own c }
theorem WRel.newRow {E:Env} {G:Gh} {h:List AObj} {w:World} (hw:WRel E G h w) (cs:Array Value) (t:TypeId) (cells:List AV) (hs:cs.size=cells.length)
  (hc:∀ (j:Nat) (c:AV) (u:Value),cells[j]?=some c→cs[j]?=some u→RepA G c u∧qHy u=true) (w':World) (hh:w'.heap=w.heap.push (.cells cs t)) (ho:w'.os=w.os) (ht:w'.tape=w.tape) (hout:w'.output=w.output) :
  G.le (qFv G h.length w.heap.size)∧WRel E (qFv G h.length w.heap.size) (h++[.row cells]) w':=by
 have hf:=hw.fresh h.length (Nat.le_refl _)
 have hown:G.own w.heap.size=none:=by
  cases ho:G.own w.heap.size with
  | none=>rfl
  | some i=>have:=(hw.own _ _ ho).1;omega
 have hle:G.le (qFv G h.length w.heap.size):=by
  refine ⟨fun _ _ x=>x,fun i b x=>?_,fun _ _ _ x=>x,fun b i x=>?_⟩
  ·show (if i=h.length then some w.heap.size else G.loc i)=some b
   split
   ·rename_i e;subst e;rw [hf.1] at x;cases x
   ·exact x
  ·show (if b=w.heap.size then some h.length else G.own b)=some i
   split
   ·rename_i e;subst e;rw [hown] at x;cases x
   ·exact x
 have hK:¬ E.K w.heap.size:=fun hk=>by have:=hw.size;have:=hk.1;omega
 refine ⟨hle,hw.le.trans hle,fun a v ha=>?_,hw.immNew,fun b hb=>?_,by rw [hh];simp;have:=hw.size;omega,ho.trans hw.os,ht.trans hw.tape,hout.trans hw.output,fun b i hb=>?_,fun i hi=>?_,fun i ob hi=>?_⟩
 ·have hc:=hw.imm a v ha
  rw [World.cell?_of_block (w:=w) (by rw [hh];exact qBi _ _ _ (World.block_lt_of_cell? _ _ hc))]
  exact hc
 ·rw [hh,qBi _ _ _ (Nat.lt_of_lt_of_le hb.1 hw.size)];exact hw.keep b hb
 ·have hb':(if b=w.heap.size then some h.length else G.own b)=some i:=hb
  split at hb'
  ·rename_i e;subst e;exact ⟨by rw [hh];simp,hK⟩
  ·have:=hw.own b i hb';exact ⟨by rw [hh];simp;omega,this.2⟩
 ·simp only [List.length_append,List.length_cons,List.length_nil] at hi
  have:=hw.fresh i (by omega)
  refine ⟨?_,this.2⟩
  show (if i=h.length then some w.heap.size else G.loc i)=none
  rw [if_neg (by omega)];exact this.1
 ·by_cases hlt:i < h.length
  ·rw [List.getElem?_append_left hlt] at hi
   refine (hw.obj i ob hi).keep hle (fun b hb=>?_) (fun n hn=>hn) (fun hn=>by show (if i=h.length then _ else G.loc i)=none;rw [if_neg (by omega)];exact hn)
   exact ⟨by rw [hh];exact qBi _ _ _ (hw.own b i hb).1,fun a ha=>rfl⟩
  ·rw [List.getElem?_append_right (by omega)] at hi
   have hi0:i-h.length=0:=by
    have:=(List.getElem?_eq_some_iff.1 hi).1
    simp at this;omega
   rw [hi0] at hi
   simp at hi
   subst hi
   have hie:i=h.length:=by omega
   subst hie
   refine ⟨w.heap.size,?_,?_,fun j c hj=>?_,fun a ha=>?_,fun n=>hf.2 n⟩
   ·show (if h.length=h.length then _ else _)=_;simp
   ·show (if w.heap.size=w.heap.size then _ else _)=_;simp
   ·have hjl:j < cs.size:=by rw [hs];exact (List.getElem?_eq_some_iff.1 hj).1
    obtain ⟨u,hu⟩:∃ u,cs[j]?=some u:=⟨cs[j],by simp [hjl]⟩
    obtain ⟨r1,r2⟩:=hc j c u hj hu
    exact ⟨u,by simp [World.cell?,hh,hu],r2,r1.mono hle,by simp [World.frozen?,hh]⟩
   ·cases hg:G.imm a with
    | none=>exact hg
    | some v=>have:=World.block_lt_of_cell? _ _ (hw.imm a v hg);omega
theorem vDf {T:Tr} (hT:TOk P T) {t:Nat} {i:TI} (ho:o.op=.alloc t) (hf:T.find t=some i):OpS P E o ρ h (.ptr h.length 0) (h++[.row i.zero]) :=
 qBv fun G e w hw hr=>by
  have hti:=hT.at hf
  obtain ⟨z,hz,hzc⟩:=hti.run_zero (w:=w)
  obtain ⟨hl,hc⟩:=zrepL_ok hzc
  have hn:=hw.newRow z.cells t i.zero (by simp [hl]) (fun j c u h1 h2=>hc G j c u h1 (by simpa using h2)) { w with heap:=w.heap.push (.cells z.cells t) } rfl rfl rfl rfl
  refine ⟨.pointer (some ⟨w.heap.size,0,none⟩),_,_,?_,hn.1,hn.2,.ptr 0 ?_⟩
  ·unfold execOp
   simp [ho,Instr.alloc,hz,newVar,newRow]
  ·show (if h.length=h.length then _ else _)=_;simp
theorem vIl {t:Nat} {x:Operand} {cs:List AV} (ho:o.op=.box t x) (hx:cellsA (ρ x)=some cs):OpS P E o ρ h (.ptr h.length 0) (h++[.row cs]) :=
 qBv fun G e w hw hr=>by
  have hx':RepA G (ρ x) (e x):=hr x (by simp [ho,Op.operands])
  obtain ⟨hl,hc⟩:=cellsA_ok hx' hx
  have hn:=hw.newRow (e x).cells t cs hl (fun j c u h1 h2=>hc j c u h1 h2) { w with heap:=w.heap.push (.cells (e x).cells t) } rfl rfl rfl rfl
  refine ⟨.pointer (some ⟨w.heap.size,0,none⟩),_,_,?_,hn.1,hn.2,.ptr 0 ?_⟩
  ·unfold execOp
   simp [ho,Instr.box,newVar,newRow]
  ·show (if h.length=h.length then _ else _)=_;simp
def qEv (T:Tr) (t:Nat) (cells:List AV) (off:Nat):Option AV:=match T.find t with
 | some i=>match i.agg with
  | true=>match Nat.ble (off+i.size) cells.length with
   | true=>some (.agg ((cells.drop off).take i.size))
   | false=>none
  | false=>cells[off]?
 | none=>none
theorem qAo {T:Tr} (hT:TOk P T) {t i off:Nat} {x:Operand} {cells:List AV} (ho:o.op=.load t x) (hx:ρ x=.ptr i off) (hi:h[i]?=some (.row cells)) (hv:qEv T t cells off=some v) :
  OpS P E o ρ h v h :=
 qBv fun G e w hw hr=>by
  have hx':RepA G (ρ x) (e x):=hr x (by simp [ho,Op.operands])
  rw [hx] at hx'
  obtain ⟨b,hb,hl⟩:=hx'.ptr_inv
  obtain ⟨b',hl',hown,hrow,himm⟩:=hw.obj i _ hi
  rw [hl] at hl';cases hl'
  unfold qEv at hv
  split at hv
  ·rename_i ti hf
   have hti:=hT.at hf
   split at hv
   ·rename_i hagg
    split at hv
    ·rename_i hble
     have hle:=Nat.le_of_ble_eq_true hble
     cases hv
     have hcell:∀ j,j < ti.size→∃ u,w.cell? ⟨b,off+j,none⟩=some u∧qHy u=true∧RepA G (cells[off+j]?.getD .any) u:=by
      intro j hj
      have hc:cells[off+j]?=some cells[off+j]:=by simp [show off+j < cells.length by omega]
      obtain ⟨u,h1,h2,h3,_⟩:=hrow _ _ hc
      exact ⟨u,h1,h2,by rw [hc];exact h3⟩
     let f:Nat→Value:=fun j=>(w.cell? ⟨b,off+j,none⟩).getD undef
     have hld:(loadCells ⟨b,off,none⟩ ti.size).run P w=.ok ((List.range ti.size).map f).toArray w:=by
      refine run_loadCells (P:=P) w _ _ f (fun j hj=>?_)
      obtain ⟨u,h1,_⟩:=hcell j hj
      rw [qCr];simp [f,h1]
     refine ⟨.agg ((List.range ti.size).map f).toArray,w,G,?_,.refl G,hw,.agg _ (by simp;omega) (fun j c y hc hy=>?_) (fun j y hy=>?_)⟩
     ·unfold execOp
      simp [ho,Instr.loadAt,hb,Instr.sureAddr,loadVar,hti.run_agg,hagg,hti.run_size,hld]
     ·simp only [List.getElem?_take,List.getElem?_drop] at hc
      split at hc
      ·rename_i hj
       obtain ⟨u,h1,h2,h3⟩:=hcell j hj
       simp [hj,f,h1] at hy
       subst hy
       rw [hc] at h3;exact h3
      ·cases hc
     ·by_cases hj:j < ti.size
      ·obtain ⟨u,h1,h2,h3⟩:=hcell j hj
       simp [hj,f,h1] at hy
       subst hy;exact h2
      ·simp [hj] at hy
    ·cases hv
   ·rename_i hagg
    obtain ⟨u,h1,h2,h3,_⟩:=hrow _ _ hv
    refine ⟨u,w,G,?_,.refl G,hw,h3⟩
    unfold execOp
    simp [ho,Instr.loadAt,hb,Instr.sureAddr,loadVar,hti.run_agg,hagg,h1]
  ·cases hv
def qCw:List AV→Nat→List AV→List AV
 | cs,_,[]=>cs
 | cs,off,c::r=>qCw (cs.set off c) (off+1) r
theorem setRun_length:∀ (new cs:List AV) (off:Nat),(qCw cs off new).length=cs.length
 | [],_,_=>rfl
 | c::r,cs,off=>by simp [qCw,setRun_length r]
theorem oneC_oneCell' {v:Value} (h:qHy v=true):v.oneCell'=true:=by cases v <;> simp_all [qHy,Value.oneCell']
theorem qHc {G:Gh} {b:Nat}:∀ (vs:List Value) (new cells:List AV) (off i0:Nat) (w:World),RowAt G w b cells→off+i0+vs.length≤cells.length→vs.length=new.length →
  (∀ (j:Nat) (c:AV) (u:Value),new[j]?=some c→vs[j]?=some u→RepA G c u∧qHy u=true) →
  ∃ w',(storeCells ⟨b,off,none⟩ vs i0).run P w=.ok () w'∧RowAt G w' b (qCw cells (off+i0) new)∧(∀ k,k≠b→w'.heap[k]?=w.heap[k]?)∧w'.heap.size=w.heap.size ∧
   w'.os=w.os∧w'.tape=w.tape∧w'.output=w.output
 | [],new,cells,off,i0,w,hr,hle,hlen,hv=>by
  cases new with
  | nil=>exact ⟨w,by simp [storeCells],hr,fun _ _=>rfl,rfl,rfl,rfl,rfl⟩
  | cons _ _=>simp at hlen
 | u::vs,new,cells,off,i0,w,hr,hle,hlen,hv=>by
  cases new with
  | nil=>simp at hlen
  | cons c new =>
   simp only [List.length_cons] at hle hlen
   obtain ⟨hc,hu⟩:=hv 0 c u (by simp) (by simp)
   have hget:cells[off+i0]?=some cells[off+i0]:=by simp [show off+i0 < cells.length by omega]
   obtain ⟨u0,h1,h2,h3,h4⟩:=hr _ _ hget
   have hrow':RowAt G (w.setCell ⟨b,off+i0,none⟩ u) b (cells.set (off+i0) c):=by
    intro j d hj
    rw [List.getElem?_set] at hj
    split at hj
    ·rename_i e;subst e
     split at hj
     ·cases hj
      exact ⟨u,World.cell?_setCell_same _ _ _ h1,hu,hc,by rw [World.frozen?_setCell];exact h4⟩
     ·cases hj
    ·rename_i e
     obtain ⟨y,k1,k2,k3,k4⟩:=hr j d hj
     exact ⟨y,by rw [World.cell?_setCell_other _ _ _ _ (by intro hh;apply e;injection hh)];exact k1,k2,k3,by rw [World.frozen?_setCell];exact k4⟩
   obtain ⟨w',q1,q2,q3,q4,q5,q6,q7⟩:=qHc vs new (cells.set (off+i0) c) off (i0+1) _ hrow' (by simp;omega) (by omega) (fun j d y hd hy=>hv (j+1) d y (by simpa using hd) (by simpa using hy))
   refine ⟨w',?_,?_,fun k hk=>?_,?_,q5,q6,q7⟩
   ·simp only [storeCells,Sem.run_bind]
    rw [qCr,run_store P w _ u .plain (oneC_oneCell' hu),h1]
    simp only [h4,Bool.false_eq_true,if_false,Result.andThen_ok]
    exact q1
   ·simpa [qCw,Nat.add_assoc] using q2
   ·rw [q3 k hk]
    simp only [World.setCell,Array.getElem?_modify]
    rw [if_neg (by simpa using fun hh=>hk hh.symm)]
   ·rw [q4];simp
theorem WRel.setObj {G:Gh} {w w':World} {i b:Nat} {cells cells':List AV} (hw:WRel E G h w) (hi:h[i]?=some (.row cells)) (hl:G.loc i=some b) (hr:RowAt G w' b cells') (hk:∀ k,k≠b→w'.heap[k]?=w.heap[k]?)
  (hs:w'.heap.size=w.heap.size) (ho:w'.os=w.os) (ht:w'.tape=w.tape) (hout:w'.output=w.output):WRel E G (h.set i (.row cells')) w':=by
 obtain ⟨b',hl',hown,hrow,himm⟩:=hw.obj i _ hi
 rw [hl] at hl';cases hl'
 have hKb:=(hw.own b i hown).2
 refine ⟨hw.le,fun a v ha=>?_,hw.immNew,fun c hc=>?_,by rw [hs];exact hw.size,ho.trans hw.os,ht.trans hw.tape,hout.trans hw.output,fun c j hc=>by rw [hs];exact hw.own c j hc,fun j hj=>hw.fresh j (by simpa using hj),fun j ob hj=>?_⟩
 ·have:a.block≠b:=fun e=>by rw [himm.1 a e] at ha;cases ha
  rw [World.cell?_of_block (w:=w) (hk _ this)]
  exact hw.imm a v ha
 ·have:c≠b:=fun e=>hKb (e▸hc)
  rw [hk _ this];exact hw.keep c hc
 ·rw [List.getElem?_set] at hj
  split at hj
  ·rename_i e;subst e
   split at hj
   ·cases hj;exact ⟨b,hl,hown,hr,himm⟩
   ·cases hj
  ·rename_i e
   refine (hw.obj j ob hj).keep (.refl G) (fun c hc=>⟨hk _ ?_,fun _ _=>rfl⟩) (fun _ hn=>hn) (fun hn=>hn)
   intro hcb;subst hcb
   rw [hown] at hc;cases hc;exact e rfl
def qDz (T:Tr) (t:Nat) (cells:List AV) (off:Nat) (x:AV):Option (List AV):=match T.find t with
 | some i=>match cellsA x with
  | some cs=>match Nat.beq cs.length i.size&&Nat.ble (off+i.size) cells.length with
   | true=>some (qCw cells off cs)
   | false=>none
  | none=>none
 | none=>none
theorem qAp {T:Tr} (hT:TOk P T) {t i off:Nat} {x y:Operand} {cells cells':List AV} (ho:o.op=.store t x y) (hx:ρ x=.ptr i off) (hi:h[i]?=some (.row cells)) (hv:qDz T t cells off (ρ y)=some cells') :
  OpS P E o ρ h .any (h.set i (.row cells')) :=
 qLs fun G e w hw hr=>by
  have hx':RepA G (ρ x) (e x):=hr x (by simp [ho,Op.operands])
  have hy':RepA G (ρ y) (e y):=hr y (by simp [ho,Op.operands])
  rw [hx] at hx'
  obtain ⟨b,hb,hl⟩:=hx'.ptr_inv
  obtain ⟨b',hl',hown,hrow,himm⟩:=hw.obj i _ hi
  rw [hl] at hl';cases hl'
  unfold qDz at hv
  split at hv
  ·rename_i ti hf
   have hti:=hT.at hf
   split at hv
   ·rename_i cs hcs
    split at hv
    ·rename_i hbb
     simp only [Bool.and_eq_true] at hbb
     have hlen:=Nat.eq_of_beq_eq_true hbb.1
     have hle:=Nat.le_of_ble_eq_true hbb.2
     cases hv
     obtain ⟨c1,c2⟩:=cellsA_ok hy' hcs
     obtain ⟨w',q1,q2,q3,q4,q5,q6,q7⟩:=qHc (P:=P) (e y).cells.toList cs cells off 0 w hrow (by simp;omega) (by simp [c1]) (fun j d u hd hu=>c2 j d u hd (by simpa using hu))
     refine ⟨w',G,?_,.refl G,hw.setObj hi hl (by simpa using q2) q3 q4 q5 q6 q7⟩
     unfold execOp
     have hsz:(e y).cells.size=ti.size:=by rw [c1,hlen]
     simp [ho,Instr.storeAt,hb,Instr.sureAddr,storeVar,hti.run_size,hsz,q1]
    ·cases hv
   ·cases hv
  ·cases hv
end
end Tdoc
