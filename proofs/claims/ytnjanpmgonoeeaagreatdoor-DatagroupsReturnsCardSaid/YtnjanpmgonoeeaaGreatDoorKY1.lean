/- The texts A1 A2 A3 A4 A5 A6 A7 A8 A9 B1 B2 B3 B4 B5 S1 R1 R2: each says at its head what it shows. Part 1 of the proof; no conditions beyond the theorems' own. -/
import Derived.Calls
import Derived.Orders
import Derived.Laws.World
import Derived.Laws.Sem
import Derived.Laws.Cells
import Derived.Laws.Entries
import Derived.Laws.Strings
import Derived.Laws.Concat
import Derived.Laws.Tables
import Derived.Great.BuildSlice
import Derived.Laws.BytesString
import Derived.Laws.AppendOwn
import Derived.Laws.Append
import Derived.KernelRfl
import Derived.Laws.MakeOwn
import Derived.Laws.Small
namespace Tdoc
open Go
inductive Dat where
 | int (k:IntKind) (n:Int)
 | bool (b:Bool)
 | str (s:List UInt8)
 | sl (sz:Nat) (es:List (List Dat))
inductive Tok where
 | none
 | full
 | right (i:Nat)
inductive AV where
 | d (x:Dat)
 | sl (sz:Nat) (es:List (List Dat)) (tok:Tok)
 | nils
 | ptr (i off:Nat)
 | iptr (cs:List Dat)
 | nilp
 | row (i off n cap:Nat)
 | bm (i n:Nat)
 | bp (i n k:Nat)
 | fn (f:Fn) (first captured:List AV)
 | nilf
 | mp (i:Nat)
 | rx (i off n:Nat)
 | ifc (nil:Bool)
 | agg (cs:List AV)
 | tup (vs:List AV)
 | gd (b:Bool) (v:AV)
 | any
inductive AObj where
 | row (cells:List AV)
 | buf (sz n:Nat) (cells:List AV)
 | right (sz n:Nat)
 | dead
 | room
 | opq (R:(Nat→Option Obj)→Nat→List Nat→Prop)
def ifcOk:Bool→Value→Bool
 | true,.nilIface=>true
 | false,.iface _ _=>true
 | _,_=>false
def oneC:Value→Bool
 | .agg _ | .tuple _=>false
 | _=>true
structure Gh where
 imm:Addr→Option Value
 loc:Nat→Option Nat
 rt:Nat→Nat→Option (Option Addr×Nat)
 own:Nat→Option Nat
structure Gh.le (G G':Gh):Prop where
 imm:∀ a v,G.imm a=some v→G'.imm a=some v
 loc:∀ i b,G.loc i=some b→G'.loc i=some b
 rt:∀ i n x,G.rt i n=some x→G'.rt i n=some x
 own:∀ b i,G.own b=some i→G'.own b=some i
theorem Gh.le.refl (G:Gh):G.le G:=⟨fun _ _ h=>h,fun _ _ h=>h,fun _ _ _ h=>h,fun _ _ h=>h⟩
theorem Gh.le.trans {A B C:Gh} (h:A.le B) (k:B.le C):A.le C :=
 ⟨fun a v x=>k.imm a v (h.imm a v x),fun i b x=>k.loc i b (h.loc i b x),fun i n y x=>k.rt i n y (h.rt i n y x),fun b i x=>k.own b i (h.own b i x)⟩
inductive RepD (m:Addr→Option Value):Dat→Value→Prop
 | int (k:IntKind) (n:Int):RepD m (.int k n) (.int k n)
 | bool (b:Bool):RepD m (.bool b) (.bool b)
 | str (s:List UInt8):RepD m (.str s) (.string ⟨s.toArray⟩)
 | nil (sz:Nat):RepD m (.sl sz []) (.slice none 0 0)
 | sl (sz:Nat) (es:List (List Dat)) (a:Addr) (cap:Nat) (vs:Nat→Value):a.spot=none→es.length≤cap→(∀ e,e∈es→e.length=sz) →
   (∀ (i:Nat) (e:List Dat) (j:Nat) (d:Dat),es[i]?=some e→e[j]?=some d→m (a.add (i*sz+j))=some (vs (i*sz+j))) →
   (∀ (i:Nat) (e:List Dat) (j:Nat) (d:Dat),es[i]?=some e→e[j]?=some d→RepD m d (vs (i*sz+j))) →
   RepD m (.sl sz es) (.slice (some a) es.length cap)
theorem RepD.mono {m m':Addr→Option Value} (h:∀ a v,m a=some v→m' a=some v) {x:Dat} {v:Value} (r:RepD m x v):RepD m' x v:=by
 induction r with
 | int k n=>exact .int k n
 | bool b=>exact .bool b
 | str s=>exact .str s
 | nil sz=>exact .nil sz
 | sl sz es a cap vs h1 h2 h3 h4 _ ih=>exact .sl sz es a cap vs h1 h2 h3 (fun i e j d he hd=>h _ _ (h4 i e j d he hd)) ih
def seatTab:Nat→Option (List Dat):=fun g=>match g with | 1=>some [.int .i64 97,.int .i64 117,.int .i64 99,.int .i64 118,.int .i64 101,.int .i64 102,.int .i64 103,.int .i64 104,.int .i64 105,.int .i64 106,.int .i64 107,.int .i64 108,.int .i64 109,.int .i64 110,.int .i64 111,.int .i64 112,.int .i64 96,.int .i64 119] | 2=>some [.int .u8 0,.int .u8 0,.int .u8 0,.int .u8 0,.int .u8 4,.int .u8 1,.int .u8 4,.int .u8 2,.int .u8 3,.int .u8 1,.int .u8 2,.int .u8 1,.int .u8 5,.int .u8 1] | 3=>some [.int .i64 31,.int .i64 28,.int .i64 31,.int .i64 30,.int .i64 31,.int .i64 30,.int .i64 31,.int .i64 31,.int .i64 30,.int .i64 31,.int .i64 30,.int .i64 31] | _=>none
def seatBlk:Nat→Option (Obj→Prop):=fun g=>match g with | 4=>some fun o=>∃ (m:Int) (t:TypeId) (f:Nat×Nat),o=.cells #[.int .i64 m] t f | _=>none
def TabI (m:Addr→Option Value):Prop :=
 ∀ (g:Nat) (cs:List Dat),seatTab g=some cs→∃ vs:Nat→Value,∀ (j:Nat) (d:Dat),cs[j]?=some d→m ⟨g,j,none⟩=some (vs j)∧RepD m d (vs j)
theorem TabI.mono {m m':Addr→Option Value} (h:∀ a v,m a=some v→m' a=some v) (r:TabI m):TabI m':=fun g cs hg=>by
 obtain ⟨vs,hv⟩:=r g cs hg
 exact ⟨vs,fun j d hd=>⟨h _ _ (hv j d hd).1,(hv j d hd).2.mono h⟩⟩
def TabB (w:World) (own:Nat→Option Nat):Prop :=
 ∀ (g:Nat) (p:Obj→Prop),seatBlk g=some p→own g=none∧∃ o,w.heap[g]?=some o∧p o
def TabOk (w:World) (G:Gh):Prop:=TabI G.imm∧TabB w G.own
theorem RepD.one {m:Addr→Option Value} {x:Dat} {v:Value} (r:RepD m x v):oneC v=true:=by cases r <;> rfl
def TokOk (G:Gh) (tok:Tok) (n:Nat) (v:Value):Prop :=
 match tok with
 | .none=>True
 | .full=>∃ a,v=.slice a n n
 | .right i=>∃ a cap,v=.slice a n cap∧G.rt i n=some (a,cap)
theorem TokOk.mono {G G':Gh} (h:G.le G') {tok:Tok} {n:Nat} {v:Value} (r:TokOk G tok n v):TokOk G' tok n v:=by
 cases tok with
 | none=>trivial
 | full=>exact r
 | right i=>obtain ⟨a,cap,hv,hr⟩:=r;exact ⟨a,cap,hv,h.rt _ _ _ hr⟩
inductive RepA (G:Gh):AV→Value→Prop
 | d {x:Dat} {v:Value}:RepD G.imm x v→RepA G (.d x) v
 | sl {sz:Nat} {es:List (List Dat)} {tok:Tok} {v:Value}:RepD G.imm (.sl sz es) v→TokOk G tok es.length v→RepA G (.sl sz es tok) v
 | nils:RepA G .nils (.slice none 0 0)
 | ptr {i b:Nat} (off:Nat):G.loc i=some b→RepA G (.ptr i off) (.pointer (some ⟨b,off,none⟩))
 | iptr {cs:List Dat} (a:Addr) (vs:Nat→Value):a.spot=none→(∀ (j:Nat) (d:Dat),cs[j]?=some d→G.imm (a.add j)=some (vs j)) →
   (∀ (j:Nat) (d:Dat),cs[j]?=some d→RepD G.imm d (vs j))→RepA G (.iptr cs) (.pointer (some a))
 | nilp:RepA G .nilp (.pointer none)
 | row {i b:Nat} (off n cap:Nat):G.loc i=some b→RepA G (.row i off n cap) (.slice (some ⟨b,off,none⟩) n cap)
 | bm {i n:Nat} (a:Option Addr) (cap:Nat):G.rt i n=some (a,cap)→(a=none→n=0)→RepA G (.bm i n) (.slice a n cap)
 | bp {i n:Nat} (p:Addr) (cap k:Nat):G.rt i n=some (some p,cap)→RepA G (.bp i n k) (.pointer (some (p.add k)))
 | fn (f:Fn) {first cap:List AV} (fs cs:Array Value):fs.size=first.length→cs.size=cap.length →
   (∀ (j:Nat) (x:AV) (v:Value),first[j]?=some x→fs[j]?=some v→RepA G x v) →
   (∀ (j:Nat) (x:AV) (v:Value),cap[j]?=some x→cs[j]?=some v→RepA G x v)→RepA G (.fn f first cap) (.func f fs cs)
 | nilf:RepA G .nilf .nilFunc
 | mp {i b:Nat}:G.loc i=some b→RepA G (.mp i) (.map (some b))
 | rx {i b off n:Nat} (off' cap:Nat):G.loc i=some b→n≤cap→(0 < n→off'=off)→RepA G (.rx i off n) (.slice (some ⟨b,off',none⟩) n cap)
 | ifc {b:Bool} {v:Value}:ifcOk b v=true→RepA G (.ifc b) v
 | agg {cs:List AV} (vs:Array Value):vs.size=cs.length→(∀ (j:Nat) (x:AV) (v:Value),cs[j]?=some x→vs[j]?=some v→RepA G x v) →
   (∀ (j:Nat) (v:Value),vs[j]?=some v→oneC v=true)→RepA G (.agg cs) (.agg vs)
 | tup {cs:List AV} (vs:Array Value):vs.size=cs.length→(∀ (j:Nat) (x:AV) (v:Value),cs[j]?=some x→vs[j]?=some v→RepA G x v) →
   RepA G (.tup cs) (.tuple vs)
 | gd {b:Bool} {x:AV} {v:Value}:(b=true→RepA G x v)→(b=false→v=undef)→RepA G (.gd b x) v
 | any (v:Value):RepA G .any v
theorem RepA.mono {G G':Gh} (h:G.le G') {x:AV} {v:Value} (r:RepA G x v):RepA G' x v:=by
 induction r with
 | d r=>exact .d (r.mono h.imm)
 | sl r t=>exact .sl (r.mono h.imm) (t.mono h)
 | nils=>exact .nils
 | ptr off hl=>exact .ptr off (h.loc _ _ hl)
 | iptr a vs h1 h2 h3=>exact .iptr a vs h1 (fun j d hd=>h.imm _ _ (h2 j d hd)) (fun j d hd=>(h3 j d hd).mono h.imm)
 | nilp=>exact .nilp
 | row off n cap hl=>exact .row off n cap (h.loc _ _ hl)
 | bm a cap hr hz=>exact .bm a cap (h.rt _ _ _ hr) hz
 | bp p cap k hr=>exact .bp p cap k (h.rt _ _ _ hr)
 | fn f fs cs h1 h2 _ _ ih1 ih2=>exact .fn f fs cs h1 h2 ih1 ih2
 | nilf=>exact .nilf
 | mp hl=>exact .mp (h.loc _ _ hl)
 | rx off cap hl h1 h2=>exact .rx off cap (h.loc _ _ hl) h1 h2
 | ifc h=>exact .ifc h
 | agg vs h1 _ h3 ih=>exact .agg vs h1 ih h3
 | tup vs h1 _ ih=>exact .tup vs h1 ih
 | gd _ hu ih=>exact .gd ih hu
 | any v=>exact .any v
def RowAt (G:Gh) (w:World) (b:Nat) (cells:List AV):Prop :=
 ∀ (j:Nat) (c:AV),cells[j]?=some c→∃ v,w.cell? ⟨b,j,none⟩=some v∧oneC v=true∧RepA G c v∧w.frozen? ⟨b,j,none⟩=false
def SpareOk (G:Gh) (w:World) (i:Nat) (sz n cap:Nat) (a:Option Addr):Prop :=
 n < cap→∃ p:Addr,a=some p∧p.spot=none∧G.own p.block=some i ∧
  ∀ j,n*sz≤j→j < cap*sz→(∃ v,w.cell? (p.add j)=some v)∧w.frozen? (p.add j)=false∧G.imm (p.add j)=none
def BufOk (G:Gh) (w:World) (i sz n cap:Nat) (cells:List AV) (a:Option Addr):Prop :=
 cells.length=n*sz∧n≤cap∧((a=none→cap=0)∧∀ p,a=some p→p.spot=none)∧∀ p,a=some p→0 < cap→p.spot=none∧G.own p.block=some i ∧
  (∀ (j:Nat) (c:AV),cells[j]?=some c→∃ v,w.cell? (p.add j)=some v∧oneC v=true∧RepA G c v) ∧
  ∀ j,j < cap*sz→(∃ v,w.cell? (p.add j)=some v)∧w.frozen? (p.add j)=false∧G.imm (p.add j)=none
def ObjRel (G:Gh) (w:World) (i:Nat):AObj→Prop
 | .row cells=>∃ b,G.loc i=some b∧G.own b=some i∧RowAt G w b cells∧(∀ a:Addr,a.block=b→G.imm a=none)∧∀ n,G.rt i n=none
 | .right sz n=>∃ a cap,G.rt i n=some (a,cap)∧n≤cap∧(∀ n',n < n'→G.rt i n'=none)∧SpareOk G w i sz n cap a
 | .buf sz n cells=>∃ a cap,G.rt i n=some (a,cap)∧(∀ n',n < n'→G.rt i n'=none)∧BufOk G w i sz n cap cells a
 | .dead=>True
 | .room=>G.loc i=none∧∀ n,G.rt i n=none
 | .opq R=>∃ b S,G.loc i=some b∧b∈S∧(∀ n,G.rt i n=none)∧(∀ k,k∈S→G.own k=some i∧∀ a:Addr,a.block=k→G.imm a=none)∧R (fun k=>w.heap[k]?) b S∧∀ f g:Nat→Option Obj,(∀ k,k∈S→f k=g k)→R f b S→R g b S
structure Env where
 w0:World
 G0:Gh
 tab:TabOk w0 G0
 ds:List Deferred
def Env.K (E:Env) (b:Nat):Prop:=b < E.w0.heap.size∧E.G0.own b=none
structure WRel (E:Env) (G:Gh) (h:List AObj) (w:World):Prop where
 le:E.G0.le G
 imm:∀ a v,G.imm a=some v→w.cell? a=some v
 immNew:∀ a v,G.imm a=some v→E.G0.imm a=some v∨¬ E.K a.block
 keep:∀ b,E.K b→w.heap[b]?=E.w0.heap[b]?
 size:E.w0.heap.size≤w.heap.size
 os:w.os=E.w0.os
 tape:w.tape=E.w0.tape
 output:w.output=E.w0.output
 own:∀ b i,G.own b=some i→b < w.heap.size∧¬ E.K b
 fresh:∀ i,h.length≤i→G.loc i=none∧∀ n,G.rt i n=none
 obj:∀ i o,h[i]?=some o→ObjRel G w i o
theorem WRel.tabB {E:Env} {G:Gh} {h:List AObj} {w:World} (hw:WRel E G h w) {own':Nat→Option Nat} (ho:∀ b,G.own b=none→own' b=none):TabB w own':=by
 intro g p hg
 obtain ⟨h1,o,h2,h3⟩:=E.tab.2 g p hg
 have hk:E.K g:=⟨(Array.getElem?_eq_some_iff.1 h2).1,h1⟩
 have hown:G.own g=none:=by
  cases hh:G.own g with
  | none=>rfl
  | some i=>exact absurd hk (hw.own _ _ hh).2
 exact ⟨ho g hown,o,(hw.keep g hk).trans h2,h3⟩
def Rel (E:Env) (N:Nat) (τ:Nat→AV) (h:List AObj) (a:Act) (w:World):Prop :=
 a.tmps.size=N∧a.defers=E.ds∧∃ G,WRel E G h w∧∀ t,RepA G (τ t) (a.tmps.getD t undef)
def AW (P:Program) (E:Env) (N:Nat) (c:Code) (Q:Exit→(Nat→AV)→List AObj→Prop) (τ:Nat→AV) (h:List AObj):Prop :=
 ∀ a w,Rel E N τ h a w→c.wp P (fun ex a' w'=>∃ τ' h',Q ex τ' h'∧Rel E N τ' h' a' w') a w
def thenA (K:(Nat→AV)→List AObj→Prop) (Q:Exit→(Nat→AV)→List AObj→Prop):Exit→(Nat→AV)→List AObj→Prop
 | .normal,τ,h=>K τ h
 | e,τ,h=>Q e τ h
def inBlockA (id:Nat) (Q:Exit→(Nat→AV)→List AObj→Prop):Exit→(Nat→AV)→List AObj→Prop
 | .exit id',τ,h=>bif Nat.beq id' id then Q .normal τ h else Q (.exit id') τ h
 | e,τ,h=>Q e τ h
section rules
variable {P:Program} {E:Env} {N:Nat} {Q:Exit→(Nat→AV)→List AObj→Prop} {τ:Nat→AV} {h:List AObj}
theorem AW_mono {c:Code} {Q':Exit→(Nat→AV)→List AObj→Prop} (hc:AW P E N c Q τ h) (hq:∀ e τ h,Q e τ h→Q' e τ h):AW P E N c Q' τ h :=
 fun a w r=>wp_mono (hc a w r) fun _ _ _ ⟨τ',h',q,r'⟩=>⟨τ',h',hq _ _ _ q,r'⟩
theorem AW_skip (hq:Q .normal τ h):AW P E N .skip Q τ h:=fun _ _ r=>wp_skip ⟨τ,h,hq,r⟩
theorem AW_label {l:Nat} (hq:Q .normal τ h):AW P E N (.label l) Q τ h:=fun _ _ r=>wp_label ⟨τ,h,hq,r⟩
theorem AW_exit {id:Nat} (hq:Q (.exit id) τ h):AW P E N (.exit id) Q τ h:=fun _ _ r=>wp_exit ⟨τ,h,hq,r⟩
theorem AW_ret (hq:Q .ret τ h):AW P E N .ret Q τ h:=fun _ _ r=>wp_ret ⟨τ,h,hq,r⟩
theorem qAu {x y:Code} (hx:AW P E N x (thenA (fun τ h=>AW P E N y Q τ h) Q) τ h):AW P E N (.seq x y) Q τ h :=
 fun a w r=>wp_seq (wp_mono (hx a w r) fun e a' w' ⟨τ',h',q,r'⟩=>by
  cases e with
  | normal=>exact q a' w' r'
  | _=>exact ⟨τ',h',q,r'⟩)
theorem AW_block {id:Nat} {c:Code} (hc:AW P E N c (inBlockA id Q) τ h):AW P E N (.block id c) Q τ h :=
 fun a w r=>wp_block (wp_mono (hc a w r) fun e a' w' ⟨τ',h',q,r'⟩=>by
  cases e with
  | exit id' =>
   simp only [inBlockA] at q
   by_cases hid:id'=id
   ·subst hid;simp only [Exit.inBlock,if_true]
    have hb:Nat.beq id' id'=true:=Nat.beq_refl id'
    rw [hb] at q;exact ⟨τ',h',q,r'⟩
   ·simp only [Exit.inBlock,hid,if_false]
    have hb:Nat.beq id' id=false:=by
     cases hb:Nat.beq id' id with
     | false=>rfl
     | true=>exact absurd (Nat.eq_of_beq_eq_true hb) hid
    rw [hb] at q;exact ⟨τ',h',q,r'⟩
  | _=>exact ⟨τ',h',q,r'⟩)
def evA (τ:Nat→AV) (ofV:Value→AV):Operand→AV
 | .tmp t=>τ t
 | .const v=>ofV v
 | .global g=>match seatTab g with
  | some cs=>.iptr cs
  | none=>.any
 | .func f=>.fn (.func f) [] []
theorem glob_rep {G:Gh} (h:TabI G.imm) (g:Nat):RepA G (match seatTab g with | some cs=>.iptr cs | none=>.any) (.pointer (some ⟨g,0,none⟩)):=by
 split
 ·rename_i cs hg
  obtain ⟨vs,hv⟩:=h g cs hg
  refine .iptr ⟨g,0,none⟩ vs rfl (fun j d hd=>?_) (fun j d hd=>(hv j d hd).2)
  have h1:=(hv j d hd).1
  have h2:(⟨g,0,none⟩:Addr).add j=⟨g,j,none⟩:=by
   unfold Addr.add
   split
   ·rename_i h0;rw [h0]
   ·simp
  rw [h2];exact h1
 ·exact .any _
theorem AW_cond {c:Operand} {x y:Code} {ofV:Value→AV} {b:Bool} (ho:∀ G v,RepA G (ofV v) v) (hc:evA τ ofV c=.d (.bool b))
  (ht:b=true→AW P E N x Q τ h) (hf:b=false→AW P E N y Q τ h):AW P E N (.cond c x y) Q τ h:=by
 intro a w r
 obtain ⟨h1,h2,G,hw,ht'⟩:=r
 have hv:a.eval c=.bool b:=by
  have:RepA G (evA τ ofV c) (a.eval c):=by
   cases c with
   | tmp t=>exact ht' t
   | const v=>exact ho G v
   | global g=>exact glob_rep (E.tab.1.mono hw.le.imm) g
   | func f=>exact .fn _ #[] #[] rfl rfl (fun j x v h=>by simp at h) (fun j x v h=>by simp at h)
  rw [hc] at this
  generalize a.eval c=u at this ⊢
  cases this with
  | d r=>cases r;rfl
 refine wp_cond_split hv (fun hb=>ht hb a w ⟨h1,h2,G,hw,ht'⟩) (fun hb=>hf hb a w ⟨h1,h2,G,hw,ht'⟩)
theorem AW_loop {c:Code} {ι:Type} (S:ι→(Nat→AV)) (H:ι→List AObj) (inv:ι→Prop) (μ:ι→Nat) (x0:ι) (h0:inv x0)
  (hs:∀ a w,Rel E N τ h a w→Rel E N (S x0) (H x0) a w)
  (round:∀ x,inv x→AW P E N c (thenA (fun τ' h'=>∃ y,inv y∧μ y < μ x∧∀ a w,Rel E N τ' h' a w→Rel E N (S y) (H y) a w) Q) (S x) (H x)) :
  AW P E N (.loop c) Q τ h:=by
 intro a w r b k cs
 have key:∀ n x a w,μ x=n→inv x→Rel E N (S x) (H x) a w →
   ∃ e a' w',(∃ τ' h',Q e τ' h'∧Rel E N τ' h' a' w')∧Arrives P (lone (b.at a (.code c::.inLoop c::k)) cs w) b k cs e a' w':=by
  intro n
  induction n using Nat.strongRecOn with
  | _ n ih =>
   intro x a w hn hI hr
   obtain ⟨e,a₁,w₁,⟨τ',h',hq,hr'⟩,harr⟩:=round x hI a w hr b (.inLoop c::k) cs
   cases e with
   | normal =>
    obtain ⟨y,hy,hlt,hsub⟩:=hq
    obtain ⟨e₂,a₂,w₂,hq₂,harr₂⟩:=ih (μ y) (hn▸hlt) y a₁ w₁ rfl hy (hsub _ _ hr')
    exact ⟨e₂,a₂,w₂,hq₂,.of_steps (Steps.trans harr (.one step_inLoop)) harr₂⟩
   | exit id=>exact ⟨_,a₁,w₁,⟨τ',h',hq,hr'⟩,.pass (x:=.inLoop c) rfl (fun _ _=>.inl (by simp)) harr⟩
   | goto l=>exact ⟨_,a₁,w₁,⟨τ',h',hq,hr'⟩,.pass (x:=.inLoop c) rfl (fun _ _=>.inl (by simp)) harr⟩
   | ret=>exact ⟨_,a₁,w₁,⟨τ',h',hq,hr'⟩,.pass (x:=.inLoop c) rfl (fun _ _=>.inl (by simp)) harr⟩
   | panic ch=>exact ⟨_,a₁,w₁,⟨τ',h',hq,hr'⟩,.pass (x:=.inLoop c) rfl (fun _ _=>.inl (by simp)) harr⟩
   | outgrown=>exact ⟨_,a₁,w₁,⟨τ',h',hq,hr'⟩,.pass (x:=.inLoop c) rfl (fun _ _=>.inl (by simp)) harr⟩
 obtain ⟨e,a',w',hq,harr⟩:=key _ x0 a w rfl h0 (hs a w r)
 exact ⟨e,a',w',hq,.of_steps (.one step_loop) harr⟩
theorem AW_sub {c:Code} {τ':Nat→AV} {h':List AObj} (hs:∀ a w,Rel E N τ h a w→Rel E N τ' h' a w) (hc:AW P E N c Q τ' h'):AW P E N c Q τ h :=
 fun a w r=>hc a w (hs a w r)
end rules
end Tdoc
set_option linter.unusedSimpArgs false
set_option linter.unusedVariables false
namespace Tdoc
open Go
inductive TK where
 | int (k:IntKind)
 | bool
 | str
 | slice (e:Nat)
 | ptr
 | struct (fs:List (Nat×Nat×Bool))
 | array (n e:Nat)
 | fn
 | other
structure TI where
 kind:TK
 size:Nat
 bytes:Nat
 zero:List AV
def TI.agg (i:TI):Bool:=match i.kind with
 | .struct _ | .array _ _=>true
 | _=>false
inductive Tr where
 | lf
 | nd (l:Tr) (k:Nat) (v:TI) (r:Tr)
def Tr.find:Tr→Nat→Option TI
 | .lf,_=>none
 | .nd l k v r,t=>match Nat.beq t k with
  | true=>some v
  | false=>match Nat.blt t k with
   | true=>l.find t
   | false=>r.find t
def kIx:IntKind→Nat
 | .i8=>0 | .i16=>1 | .i32=>2 | .i64=>3 | .u8=>4 | .u16=>5 | .u32=>6 | .u64=>7
def kEq (a b:IntKind):Bool:=Nat.beq (kIx a) (kIx b)
theorem kEq_eq {a b:IntKind} (h:kEq a b=true):a=b:=by cases a <;> cases b <;> first | rfl | (exact absurd h (by decide))
def zrep:AV→Value→Bool
 | .d (.int k n),.int k' n'=>kEq k k'&&n == n'
 | .d (.bool b),.bool b'=>b == b'
 | .d (.str []),.string s=>s.data.toList.isEmpty
 | .sl _ [] .full,.slice none 0 0=>true
 | .nilp,.pointer none=>true
 | .nilf,.nilFunc=>true
 | .ifc true,.nilIface=>true
 | _,_=>false
def zrepL:List AV→List Value→Bool
 | [],[]=>true
 | a::l,v::r=>zrep a v&&zrepL l r
 | _,_=>false
theorem zrep_ok {a:AV} {v:Value} (h:zrep a v=true) (G:Gh):RepA G a v∧oneC v=true:=by
 unfold zrep at h
 split at h
 ·simp only [Bool.and_eq_true,beq_iff_eq] at h
  obtain ⟨h1,rfl⟩:=h
  obtain rfl:=kEq_eq h1
  exact ⟨.d (.int _ _),rfl⟩
 ·simp only [beq_iff_eq] at h;subst h;exact ⟨.d (.bool _),rfl⟩
 ·rename_i s
  obtain ⟨⟨l⟩⟩:=s
  simp only [List.isEmpty_iff] at h
  subst h
  exact ⟨.d (.str []),rfl⟩
 ·exact ⟨.sl (.nil _) ⟨none,rfl⟩,rfl⟩
 ·exact ⟨.nilp,rfl⟩
 ·exact ⟨.nilf,rfl⟩
 ·exact ⟨.ifc rfl,rfl⟩
 ·cases h
theorem zrepL_ok:∀ {l:List AV} {r:List Value},zrepL l r=true→l.length=r.length∧∀ (G:Gh) (j:Nat) (a:AV) (v:Value),l[j]?=some a→r[j]?=some v→RepA G a v∧oneC v=true
 | [],[],_=>⟨rfl,fun _ _ _ _ h=>by simp at h⟩
 | a::l,v::r,h=>by
  simp only [zrepL,Bool.and_eq_true] at h
  have ih:=zrepL_ok h.2
  refine ⟨by simp [ih.1],fun G j x y hx hy=>?_⟩
  cases j with
  | zero=>simp at hx hy;subst hx;subst hy;exact zrep_ok h.1 G
  | succ j=>simp at hx hy;exact ih.2 G j x y hx hy
def fieldsOf (P:Program):List Field→List (Nat×Nat×Bool)→Bool
 | [],[]=>true
 | f::r,(o,s,a)::l=>Nat.beq f.offset o&&(match P.info? f.type with | some i=>Nat.beq i.size s | none=>false) &&
   (match P.underlying f.type with | some (.struct _) | some (.array _ _)=>a | some _=>!a | none=>false)&&fieldsOf P r l
 | _,_=>false
def kindOk (P:Program):TK→TypeDesc→Bool
 | .int k,.int k'=>kEq k k'
 | .bool,.bool=>true
 | .str,.string=>true
 | .slice e,.slice e'=>Nat.beq e e'
 | .ptr,.pointer _=>true
 | .struct fs,.struct fields=>fieldsOf P fields.toList fs
 | .array n e,.array n' e'=>Nat.beq n n'&&Nat.beq e e'
 | .fn,.func _ _ _=>true
 | _,_=>false
def infoOk (i:TI) (info:TypeInfo):Bool :=
 Nat.beq info.size i.size&&Nat.beq info.bytes i.bytes&&(match info.zero with | some z=>zrepL i.zero z.cells.toList | none=>false)
def typeOk (P:Program) (t:Nat) (i:TI):Bool :=
 (match P.info? t with | some info=>infoOk i info | none=>false)&&(match P.underlying t with | some d=>kindOk P i.kind d | none=>false)
def Tr.all (p:Nat→TI→Bool):Tr→Bool
 | .lf=>true
 | .nd l k v r=>p k v&&l.all p&&r.all p
theorem Tr.find_all {p:Nat→TI→Bool}:∀ {T:Tr} {t:Nat} {i:TI},T.all p=true→T.find t=some i→p t i=true
 | .lf,_,_,_,h=>by simp [Tr.find] at h
 | .nd l k v r,t,i,ha,h=>by
  simp only [Tr.all,Bool.and_eq_true] at ha
  unfold Tr.find at h
  split at h
  ·rename_i hb
   obtain rfl:=Nat.eq_of_beq_eq_true hb
   simp only [Option.some.injEq] at h;subst h;exact ha.1.1
  ·split at h
   ·exact find_all ha.1.2 h
   ·exact find_all ha.2 h
structure TOk (P:Program) (T:Tr):Prop where
 all:T.all (typeOk P)=true
structure TypeAt (P:Program) (t:Nat) (i:TI):Prop where
 info:∃ info,P.info? t=some info∧info.size=i.size∧info.bytes=i.bytes∧∃ z,info.zero=some z∧zrepL i.zero z.cells.toList=true
 und:∃ d,P.underlying t=some d∧kindOk P i.kind d=true
theorem TOk.at {P:Program} {T:Tr} (h:TOk P T) {t:Nat} {i:TI} (hf:T.find t=some i):TypeAt P t i:=by
 have:=Tr.find_all h.all hf
 unfold typeOk at this
 simp only [Bool.and_eq_true] at this
 obtain ⟨h1,h2⟩:=this
 constructor
 ·split at h1
  ·rename_i info hi
   simp only [infoOk,Bool.and_eq_true] at h1
   obtain ⟨⟨ha,hb⟩,hc⟩:=h1
   refine ⟨info,hi,Nat.eq_of_beq_eq_true ha,Nat.eq_of_beq_eq_true hb,?_⟩
   split at hc
   ·rename_i z hz;exact ⟨z,hz,hc⟩
   ·cases hc
  ·cases h1
 ·split at h2
  ·rename_i d hd;exact ⟨d,hd,h2⟩
  ·cases h2
section runs
variable {P:Program} {t:Nat} {i:TI} {w:World}
theorem TypeAt.run_size (h:TypeAt P t i):(Go.sizeOf t).run P w=.ok i.size w:=by
 obtain ⟨info,hi,hs,_⟩:=h.info
 simp [Go.sizeOf,typeInfo,hi,hs]
theorem TypeAt.run_zero (h:TypeAt P t i):∃ z,(zeroValue t).run P w=.ok z w∧zrepL i.zero z.cells.toList=true:=by
 obtain ⟨info,hi,_,_,z,hz,hc⟩:=h.info
 exact ⟨z,by simp [zeroValue,typeInfo,hi,hz],hc⟩
theorem TypeAt.run_agg (h:TypeAt P t i):(isAgg t).run P w=.ok i.agg w:=by
 obtain ⟨d,hd,hk⟩:=h.und
 unfold isAgg TI.agg
 rw [Sem.run_bind,run_underlying hd w]
 cases hkd:i.kind <;> rw [hkd] at hk <;> cases d <;> simp_all [kindOk]
end runs
def ofVal:Value→AV
 | .int k n=>.d (.int k n)
 | .bool b=>.d (.bool b)
 | .string s=>.d (.str s.data.toList)
 | .pointer none=>.nilp
 | .slice none 0 0=>.nils
 | .nilFunc=>.nilf
 | .nilIface=>.ifc true
 | _=>.any
theorem ofVal_ok (G:Gh) (v:Value):RepA G (ofVal v) v:=by
 unfold ofVal
 split
 ·exact .d (.int _ _)
 ·exact .d (.bool _)
 ·rename_i s;obtain ⟨⟨l⟩⟩:=s;exact .d (.str l)
 ·exact .nilp
 ·exact .nils
 ·exact .nilf
 ·exact .ifc rfl
 ·exact .any _
abbrev ev (τ:Nat→AV):Operand→AV:=evA τ ofVal
section inv
variable {G:Gh} {v:Value}
theorem RepA.int_inv {k:IntKind} {n:Int} (h:RepA G (.d (.int k n)) v):v=.int k n:=by cases h with | d r=>cases r;rfl
theorem RepA.bool_inv {b:Bool} (h:RepA G (.d (.bool b)) v):v=.bool b:=by cases h with | d r=>cases r;rfl
theorem RepA.str_inv {s:List UInt8} (h:RepA G (.d (.str s)) v):v=.string ⟨s.toArray⟩:=by cases h with | d r=>cases r;rfl
theorem RepA.gd_inv {b:Bool} {x:AV} (h:RepA G (.gd b x) v) (hb:b=true):RepA G x v:=by cases h with | gd r _=>exact r hb
theorem RepA.gd_undef {b:Bool} {x:AV} (h:RepA G (.gd b x) v) (hb:b=false):v=undef:=by cases h with | gd _ r=>exact r hb
theorem RepA.ptr_inv {i off:Nat} (h:RepA G (.ptr i off) v):∃ b,v=.pointer (some ⟨b,off,none⟩)∧G.loc i=some b:=by cases h with | ptr _ r=>exact ⟨_,rfl,r⟩
end inv
def OpP (P:Program) (o:Oper) (ρ:Operand→AV) (v:AV):Prop :=
 ∀ (G:Gh) (e:Operand→Value) (w:World),(∀ a x,G.imm a=some x→w.cell? a=some x)→(∀ x,x∈o.op.operands.toList→RepA G (ρ x) (e x)) →
  ∃ u,(execOp e o).run P w=.ok (.value u) w∧RepA G v u
def binInt (op:BinOp) (k:IntKind) (a b:Int):Option (AV×Prop) :=
 match op with
 | .add=>some (.d (.int k (k.wrap (a+b))),True)
 | .sub=>some (.d (.int k (k.wrap (a-b))),True)
 | .mul=>some (.d (.int k (k.wrap (a*b))),True)
 | .quo=>some (.d (.int k (k.wrap (a.tdiv b))),b≠0)
 | .rem=>some (.d (.int k (a.tmod b)),b≠0)
 | .and=>some (.d (.int k (k.wrap (BitVec.ofInt k.bits a &&& BitVec.ofInt k.bits b).toNat)),True)
 | .or=>some (.d (.int k (k.wrap (BitVec.ofInt k.bits a ||| BitVec.ofInt k.bits b).toNat)),True)
 | .xor=>some (.d (.int k (k.wrap (BitVec.ofInt k.bits a ^^^ BitVec.ofInt k.bits b).toNat)),True)
 | .andNot=>some (.d (.int k (k.wrap (BitVec.ofInt k.bits a &&& ~~~ BitVec.ofInt k.bits b).toNat)),True)
 | .eql=>some (.d (.bool (a == b)),True)
 | .neq=>some (.d (.bool (a != b)),True)
 | .lss=>some (.d (.bool (decide (a < b))),True)
 | .leq=>some (.d (.bool (decide (a≤b))),True)
 | .gtr=>some (.d (.bool (decide (a > b))),True)
 | .geq=>some (.d (.bool (decide (a≥b))),True)
 | _=>none
def binStr (op:BinOp) (a b:List UInt8):Option (AV×Prop) :=
 match op with
 | .add=>some (.d (.str (a++b)),a.length+b.length≤9223372036854775807)
 | .eql=>some (.d (.bool (a == b)),True)
 | .neq=>some (.d (.bool (!(a == b))),True)
 | .lss=>some (.d (.bool (Op.bytesLess a b)),True)
 | .leq=>some (.d (.bool (Op.bytesLess a b||a == b)),True)
 | .gtr=>some (.d (.bool (!(Op.bytesLess a b||a == b))),True)
 | .geq=>some (.d (.bool (!Op.bytesLess a b)),True)
 | _=>none
def isBoolT (T:Tr) (t:Nat):Bool:=match T.find t with
 | some i=>match i.kind with | .bool=>true | _=>false
 | none=>false
def binA (T:Tr) (op:BinOp) (t:Nat) (x y:AV):Option (AV×Prop) :=
 match x with
 | .d (.int k a)=>match y with
  | .d (.int k' b)=>match op with
   | .shl=>some (.d (.int k (k.wrap (a*2 ^ (min b.toNat k.bits)))),0≤b)
   | .shr=>some (.d (.int k (a.fdiv (2 ^ (min b.toNat k.bits)))),0≤b)
   | op=>match kEq k k' with
    | true=>binInt op k a b
    | false=>none
  | _=>none
 | .d (.str a)=>match y with
  | .d (.str b)=>binStr op a b
  | _=>none
 | .d (.bool a)=>match y with
  | .d (.bool b)=>match isBoolT T t with
   | true=>match op with
    | .eql=>some (.d (.bool (a == b)),True)
    | .neq=>some (.d (.bool (!(a == b))),True)
    | _=>none
   | false=>none
  | _=>none
 | _=>none
theorem eqGuard_run {P:Program} {w:World} (op:BinOp) (t:TypeId) (x y:Operand) (a b:Value) (h1:∀ z,a=.nilIface→b=z→z≠.nilIface) (h2:∀ c d,a=.agg c→b≠.agg d) :
  (eqGuard op t x y a b).run P w=.ok () w:=by
 unfold eqGuard
 cases op <;> simp
 all_goals
  split
  ·exact absurd rfl (h1 _ rfl rfl)
  ·exact absurd rfl (h2 _ _ rfl)
  ·simp
theorem eqGuard_int {P:Program} {w:World} (op:BinOp) (t:TypeId) (x y:Operand) (k k':IntKind) (a b:Int):(eqGuard op t x y (.int k a) (.int k' b)).run P w=.ok () w :=
 eqGuard_run _ _ _ _ _ _ (by simp) (by simp)
theorem eqGuard_str {P:Program} {w:World} (op:BinOp) (t:TypeId) (x y:Operand) (a b:ByteArray):(eqGuard op t x y (.string a) (.string b)).run P w=.ok () w :=
 eqGuard_run _ _ _ _ _ _ (by simp) (by simp)
theorem eqGuard_bool {P:Program} {w:World} (op:BinOp) (t:TypeId) (x y:Operand) (a b:Bool):(eqGuard op t x y (.bool a) (.bool b)).run P w=.ok () w :=
 eqGuard_run _ _ _ _ _ _ (by simp) (by simp)
theorem binInt_run {P:Program} {w:World} {G:Gh} {op:BinOp} {k:IntKind} {a b:Int} {v:AV} {C:Prop} (hne:op≠.shl∧op≠.shr) (h:binInt op k a b=some (v,C)) (hC:C) (t:TypeId) :
  ∃ u,(Go.binOp op t (.int k a) (.int k b)).run P w=.ok u w∧RepA G v u:=by
 cases op <;> simp only [binInt,Option.some.injEq,Prod.mk.injEq] at h <;> try (exact absurd rfl hne.1)
 all_goals try (exact absurd rfl hne.2)
 all_goals obtain ⟨rfl,rfl⟩:=h
 all_goals simp only [Go.binOp,ne_eq,not_true_eq_false,if_false,Op.intArith,Op.intDiv,Op.intBits,Op.intCmp]
 all_goals first
  | exact ⟨_,rfl,.d (.int _ _)⟩
  | exact ⟨_,rfl,.d (.bool _)⟩
  | (simp only [if_neg hC];exact ⟨_,rfl,.d (.int _ _)⟩)
theorem ba_size (s:List UInt8):(⟨s.toArray⟩:ByteArray).size=s.length:=by simp [ByteArray.size]
theorem binStr_run {P:Program} {w:World} {G:Gh} {op:BinOp} {a b:List UInt8} {v:AV} {C:Prop} (h:binStr op a b=some (v,C)) (hC:C) (t:TypeId) :
  ∃ u,(Go.binOp op t (.string ⟨a.toArray⟩) (.string ⟨b.toArray⟩)).run P w=.ok u w∧RepA G v u:=by
 cases op <;> simp only [binStr,Option.some.injEq,Prod.mk.injEq,reduceCtorEq] at h
 all_goals obtain ⟨rfl,rfl⟩:=h
 all_goals simp only [Go.binOp,Op.stringOp,ByteArray.toList_mk]
 case add =>
  rw [ba_size,ba_size,if_neg (by simp [IntKind.max,IntKind.signed,IntKind.bits];omega)]
  exact ⟨_,rfl,by rw [ByteArray.mk_append_mk];exact .d (.str _)⟩
 all_goals exact ⟨_,rfl,.d (.bool _)⟩
theorem und_of_bool {P:Program} {T:Tr} (hT:TOk P T) {t:Nat} (h:isBoolT T t=true):P.underlying t=some .bool:=by
 unfold isBoolT at h
 split at h
 ·rename_i i hi
  split at h
  ·rename_i hk
   obtain ⟨d,hd,hkd⟩:=(hT.at hi).und
   rw [hk] at hkd
   cases d <;> simp [kindOk] at hkd
   exact hd
  ·cases h
 ·cases h
theorem binA_ok {P:Program} {T:Tr} (hT:TOk P T) {o:Oper} {op:BinOp} {t yt:Nat} {x y:Operand} (ho:o.op=.binOp op t x y yt) {ρ:Operand→AV} {v:AV} {C:Prop}
  (h:binA T op t (ρ x) (ρ y)=some (v,C)) (hC:C):OpP P o ρ v:=by
 intro G e w hi hr
 have hx:RepA G (ρ x) (e x):=hr x (by simp [ho,Op.operands])
 have hy:RepA G (ρ y) (e y):=hr y (by simp [ho,Op.operands])
 unfold execOp
 simp only [ho,Sem.run_bind]
 unfold binA at h
 split at h
 ·rename_i k a hxe
  rw [hxe] at hx
  rw [hx.int_inv]
  split at h
  ·rename_i k' b hye
   rw [hye] at hy
   rw [hy.int_inv,eqGuard_int]
   split at h
   ·simp only [Option.some.injEq,Prod.mk.injEq] at h
    obtain ⟨rfl,rfl⟩:=h
    simp only [Result.andThen_ok,Go.binOp,Op.shift,if_neg (Int.not_lt.2 hC)]
    exact ⟨_,rfl,.d (.int _ _)⟩
   ·simp only [Option.some.injEq,Prod.mk.injEq] at h
    obtain ⟨rfl,rfl⟩:=h
    simp only [Result.andThen_ok,Go.binOp,Op.shift,if_neg (Int.not_lt.2 hC)]
    exact ⟨_,rfl,.d (.int _ _)⟩
   ·rename_i hn1 hn2
    split at h
    ·rename_i hk
     obtain rfl:=kEq_eq hk
     obtain ⟨u,hu,hru⟩:=binInt_run (P:=P) (w:=w) (G:=G) ⟨hn1,hn2⟩ h hC t
     exact ⟨u,by simp [hu],hru⟩
    ·cases h
  ·cases h
 ·rename_i a hxe
  rw [hxe] at hx
  rw [hx.str_inv]
  split at h
  ·rename_i b hye
   rw [hye] at hy
   rw [hy.str_inv,eqGuard_str]
   obtain ⟨u,hu,hru⟩:=binStr_run (P:=P) (w:=w) (G:=G) h hC t
   exact ⟨u,by simp [hu],hru⟩
  ·cases h
 ·rename_i a hxe
  rw [hxe] at hx
  rw [hx.bool_inv]
  split at h
  ·rename_i b hye
   rw [hye] at hy
   rw [hy.bool_inv,eqGuard_bool]
   split at h
   ·rename_i hb
    have hu:=und_of_bool hT hb
    have he:(Op.equal t (.bool a) (.bool b)).run P w=.ok (a == b) w:=by
     show (Op.equalIn (9999+1) t (.bool a) (.bool b)).run P w=_
     rw [Op.equalIn]
     simp [run_underlying hu]
    split at h
    ·simp only [Option.some.injEq,Prod.mk.injEq] at h
     obtain ⟨rfl,rfl⟩:=h
     exact ⟨_,by simp [Go.binOp,he],.d (.bool _)⟩
    ·simp only [Option.some.injEq,Prod.mk.injEq] at h
     obtain ⟨rfl,rfl⟩:=h
     exact ⟨_,by simp [Go.binOp,he],.d (.bool _)⟩
    ·cases h
   ·cases h
  ·cases h
 ·cases h
def unA (op:UnOp) (x:AV):Option AV :=
 match op with
 | .not=>match x with
  | .d (.bool b)=>some (.d (.bool (!b)))
  | _=>none
 | .neg=>match x with
  | .d (.int k n)=>some (.d (.int k (k.wrap (0-n))))
  | _=>none
 | .xor=>match x with
  | .d (.int k n)=>some (.d (.int k (k.wrap (BitVec.ofInt k.bits (if k.signed then -1 else k.max) ^^^ BitVec.ofInt k.bits n).toNat)))
  | _=>none
 | _=>none
theorem unA_ok {P:Program} {o:Oper} {op:UnOp} {t:Nat} {x:Operand} (ho:o.op=.unOp op t x) {ρ:Operand→AV} {v:AV} (h:unA op (ρ x)=some v):OpP P o ρ v:=by
 intro G e w hi hr
 have hx:RepA G (ρ x) (e x):=hr x (by simp [ho,Op.operands])
 unfold execOp
 simp only [ho,Sem.run_bind]
 unfold unA at h
 split at h
 ·split at h
  ·rename_i hxe;rw [hxe] at hx;rw [hx.bool_inv];cases h;exact ⟨_,rfl,.d (.bool _)⟩
  ·cases h
 ·split at h
  ·rename_i hxe;rw [hxe] at hx;rw [hx.int_inv];cases h;exact ⟨_,rfl,.d (.int _ _)⟩
  ·cases h
 ·split at h
  ·rename_i hxe;rw [hxe] at hx;rw [hx.int_inv];cases h;exact ⟨_,rfl,.d (.int _ _)⟩
  ·cases h
 ·cases h
end Tdoc
namespace Tdoc
open Go
theorem qCx (a:Addr) (h:a.spot=none) (x y:Nat):(a.add x).add y=a.add (x+y):=by
 obtain ⟨b,o,s⟩:=a
 simp only at h;subst h
 unfold Addr.add
 by_cases hx:x=0
 ·subst hx;simp
 ·by_cases hy:y=0
  ·subst hy;simp [hx]
  ·simp [hx,hy,show x+y≠0 by omega,Nat.add_assoc]
theorem add_spot (a:Addr) (h:a.spot=none) (x:Nat):(a.add x).spot=none:=by unfold Addr.add;split <;> simp_all
theorem qCq (a:Addr) (x:Nat):(a.add x).block=a.block:=by unfold Addr.add;split <;> simp_all
theorem qDb (b o x:Nat):(⟨b,o,none⟩:Addr).add x=⟨b,o+x,none⟩:=by unfold Addr.add;split <;> simp_all
theorem qCk (a:Addr) (h:a.spot=none) (x:Nat):a.add x=⟨a.block,a.off+x,none⟩:=by
 obtain ⟨b,o,s⟩:=a
 simp only at h;subst h
 exact qDb b o x
def scalarA:AV→Bool
 | .agg _ | .tup _ | .gd _ _ | .any=>false
 | _=>true
theorem scalar_one {G:Gh} {x:AV} {v:Value} (h:RepA G x v) (hs:scalarA x=true):oneC v=true:=by
 cases h with
 | d r=>exact r.one
 | sl r _=>exact r.one
 | agg _ _ _ _=>cases hs
 | tup _ _ _=>cases hs
 | gd _ _=>cases hs
 | any=>cases hs
 | ifc h=>rename_i b;cases b <;> cases v <;> first | rfl | cases h
 | _=>rfl
def cellsA (v:AV):Option (List AV):=match v with
 | .agg cs=>some cs
 | v=>match scalarA v with
  | true=>some [v]
  | false=>none
theorem one_cells {v:Value} (h:oneC v=true):v.cells = #[v]:=by cases v <;> first | rfl | cases h
theorem cellsA_ok {G:Gh} {x:AV} {v:Value} {cs:List AV} (h:RepA G x v) (hc:cellsA x=some cs) :
  v.cells.size=cs.length∧∀ (j:Nat) (c:AV) (u:Value),cs[j]?=some c→v.cells[j]?=some u→RepA G c u∧oneC u=true:=by
 have one:scalarA x=true→cs=[x]→v.cells.size=cs.length∧∀ (j:Nat) (c:AV) (u:Value),cs[j]?=some c→v.cells[j]?=some u→RepA G c u∧oneC u=true:=by
  intro hs hcs
  subst hcs
  have h1:=scalar_one h hs
  rw [one_cells h1]
  refine ⟨rfl,fun j c u hc hu=>?_⟩
  cases j with
  | zero=>simp at hc hu;subst hc;subst hu;exact ⟨h,h1⟩
  | succ j=>simp at hc
 cases h with
 | agg vs h1 h2 h3 =>
  simp only [cellsA,Option.some.injEq] at hc
  subst hc
  exact ⟨h1,fun j c u hc hu=>⟨h2 j c u hc hu,h3 j u hu⟩⟩
 | tup _ _ _=>simp [cellsA,scalarA] at hc
 | gd _ _=>simp [cellsA,scalarA] at hc
 | any=>simp [cellsA,scalarA] at hc
 | _=>exact one rfl (by simpa [cellsA,scalarA] using hc.symm)
def toDat:AV→Option Dat
 | .d x=>some x
 | .sl sz es _=>some (.sl sz es)
 | _=>none
theorem toDat_ok {G:Gh} {x:AV} {v:Value} {y:Dat} (h:RepA G x v) (hc:toDat x=some y):RepD G.imm y v:=by
 cases h with
 | d r=>simp only [toDat,Option.some.injEq] at hc;subst hc;exact r
 | sl r _=>simp only [toDat,Option.some.injEq] at hc;subst hc;exact r
 | _=>cases hc
def asEs:AV→Option (Nat×List (List Dat))
 | .d (.sl sz es)=>some (sz,es)
 | .sl sz es _=>some (sz,es)
 | _=>none
theorem asEs_ok {G:Gh} {x:AV} {v:Value} {sz:Nat} {es:List (List Dat)} (h:RepA G x v) (hc:asEs x=some (sz,es)):RepD G.imm (.sl sz es) v:=by
 cases h with
 | d r =>
  unfold asEs at hc
  split at hc
  ·rename_i he;cases he;cases hc;exact r
  ·rename_i he;cases he
  ·cases hc
 | sl r _=>simp only [asEs,Option.some.injEq,Prod.mk.injEq] at hc;obtain ⟨rfl,rfl⟩:=hc;exact r
 | _=>cases hc
theorem RepD.slice_inv {m:Addr→Option Value} {sz:Nat} {es:List (List Dat)} {v:Value} (h:RepD m (.sl sz es) v) :
  ∃ a cap,v=.slice a es.length cap∧(a=none→es=[]∧cap=0)∧∀ p,a=some p→p.spot=none∧es.length≤cap∧(∀ e,e∈es→e.length=sz) ∧
   ∃ vs:Nat→Value,(∀ (i:Nat) (e:List Dat) (j:Nat) (d:Dat),es[i]?=some e→e[j]?=some d→m (p.add (i*sz+j))=some (vs (i*sz+j))) ∧
    (∀ (i:Nat) (e:List Dat) (j:Nat) (d:Dat),es[i]?=some e→e[j]?=some d→RepD m d (vs (i*sz+j))):=by
 cases h with
 | nil=>exact ⟨none,0,rfl,⟨fun _=>⟨rfl,rfl⟩,fun p h=>(by cases h)⟩⟩
 | sl _ _ a cap vs h1 h2 h3 h4 h5=>exact ⟨some a,cap,rfl,⟨fun h=>(by cases h),fun p h=>(by cases h;exact ⟨h1,h2,h3,vs,h4,h5⟩)⟩⟩
def sliceElem (T:Tr) (t sz:Nat):Bool:=match T.find t with
 | some i=>match i.kind with
  | .slice e=>match T.find e with
   | some ie=>Nat.beq ie.size sz
   | none=>false
  | _=>false
 | none=>false
theorem qDo {P:Program} {T:Tr} (hT:TOk P T) {t sz:Nat} (h:sliceElem T t sz=true):∃ e ie,P.underlying t=some (.slice e)∧TypeAt P e ie∧ie.size=sz:=by
 unfold sliceElem at h
 split at h
 ·rename_i i hi
  split at h
  ·rename_i e hk
   split at h
   ·rename_i ie hie
    obtain ⟨d,hd,hkd⟩:=(hT.at hi).und
    rw [hk] at hkd
    cases d <;> simp [kindOk] at hkd
    subst hkd
    exact ⟨e,ie,hd,hT.at hie,Nat.eq_of_beq_eq_true h⟩
   ·cases h
  ·cases h
 ·cases h
def isStrT (T:Tr) (t:Nat):Bool:=match T.find t with
 | some i=>match i.kind with | .str=>true | _=>false
 | none=>false
theorem qCs {P:Program} {T:Tr} (hT:TOk P T) {t:Nat} (h:isStrT T t=true):P.underlying t=some .string:=by
 unfold isStrT at h
 split at h
 ·rename_i i hi
  split at h
  ·rename_i hk
   obtain ⟨d,hd,hkd⟩:=(hT.at hi).und
   rw [hk] at hkd
   cases d <;> simp [kindOk] at hkd
   exact hd
  ·cases h
 ·cases h
def isSliceT (T:Tr) (t:Nat):Bool:=match T.find t with
 | some i=>match i.kind with | .slice _=>true | _=>false
 | none=>false
theorem und_of_slice {P:Program} {T:Tr} (hT:TOk P T) {t:Nat} (h:isSliceT T t=true):∃ e,P.underlying t=some (.slice e):=by
 unfold isSliceT at h
 split at h
 ·rename_i i hi
  split at h
  ·rename_i e hk
   obtain ⟨d,hd,hkd⟩:=(hT.at hi).und
   rw [hk] at hkd
   cases d <;> simp [kindOk] at hkd
   exact ⟨_,hd⟩
  ·cases h
 ·cases h
def intKindT (T:Tr) (t:Nat):Option IntKind:=match T.find t with
 | some i=>match i.kind with | .int k=>some k | _=>none
 | none=>none
theorem und_of_int {P:Program} {T:Tr} (hT:TOk P T) {t:Nat} {k:IntKind} (h:intKindT T t=some k):P.underlying t=some (.int k):=by
 unfold intKindT at h
 split at h
 ·rename_i i hi
  split at h
  ·rename_i k' hk
   cases h
   obtain ⟨d,hd,hkd⟩:=(hT.at hi).und
   rw [hk] at hkd
   cases d <;> simp [kindOk] at hkd
   rw [kEq_eq hkd];exact hd
  ·cases h
 ·cases h
def fieldT (T:Tr) (t f:Nat):Option (Nat×Nat×Bool):=match T.find t with
 | some i=>match i.kind with
  | .struct fs=>fs[f]?
  | _=>none
 | none=>none
theorem fieldsOf_at {P:Program}:∀ {fields:List Field} {fs:List (Nat×Nat×Bool)} {f o s:Nat} {g:Bool},fieldsOf P fields fs=true→fs[f]?=some (o,s,g) →
  ∃ fd,fields[f]?=some fd∧fd.offset=o∧(∃ i,P.info? fd.type=some i∧i.size=s)∧∃ d,P.underlying fd.type=some d∧(match d with | .struct _ | .array _ _=>true | _=>false)=g
 | [],[],_,_,_,_,_,h=>by simp at h
 | fd::r,x::l,f,o,s,g,hf,h=>by
  obtain ⟨o',s',g'⟩:=x
  simp only [fieldsOf,Bool.and_eq_true] at hf
  obtain ⟨⟨⟨h1,h2⟩,h3⟩,h4⟩:=hf
  cases f with
  | zero =>
   simp only [List.getElem?_cons_zero,Option.some.injEq,Prod.mk.injEq] at h
   obtain ⟨rfl,rfl,rfl⟩:=h
   refine ⟨fd,by simp,Nat.eq_of_beq_eq_true h1,?_,?_⟩
   ·split at h2
    ·rename_i i hi;exact ⟨i,hi,Nat.eq_of_beq_eq_true h2⟩
    ·cases h2
   ·cases hu:P.underlying fd.type with
    | none=>simp [hu] at h3
    | some d=>refine ⟨d,rfl,?_⟩;cases d <;> simp_all
  | succ f =>
   obtain ⟨fd',h5,h6⟩:=fieldsOf_at h4 (by simpa using h)
   exact ⟨fd',by simpa using h5,h6⟩
 | [],_::_,_,_,_,_,h,_=>by simp [fieldsOf] at h
 | _::_,[],_,_,_,_,h,_=>by simp [fieldsOf] at h
theorem fieldT_ok {P:Program} {T:Tr} (hT:TOk P T) {t f o s:Nat} {g:Bool} (h:fieldT T t f=some (o,s,g)) :
  ∃ fields fd,P.underlying t=some (.struct fields)∧fields[f]?=some fd∧fd.offset=o∧(∃ i,P.info? fd.type=some i∧i.size=s) ∧
   ∃ d,P.underlying fd.type=some d∧(match d with | .struct _ | .array _ _=>true | _=>false)=g:=by
 unfold fieldT at h
 split at h
 ·rename_i i hi
  split at h
  ·rename_i fs hk
   obtain ⟨d,hd,hkd⟩:=(hT.at hi).und
   rw [hk] at hkd
   cases d <;> simp [kindOk] at hkd
   rename_i fields
   obtain ⟨fd,h1,h2⟩:=fieldsOf_at hkd h
   exact ⟨fields,fd,hd,by simpa using h1,h2⟩
  ·cases h
 ·cases h
section ops
variable {P:Program} {T:Tr} {o:Oper} {ρ:Operand→AV} {v:AV}
theorem move_ok {x:Operand} (ho:o.op=.move x∨o.op=.assign x):OpP P o ρ (ρ x):=by
 intro G e w hi hr
 have hx:RepA G (ρ x) (e x):=hr x (by rcases ho with ho | ho <;> simp [ho,Op.operands])
 refine ⟨e x,?_,hx⟩
 unfold execOp
 rcases ho with ho | ho <;> simp [ho]
def pickAnd (c a:AV):Option (AV×Prop):=match c with
 | .d (.bool c0)=>match a with
  | .gd g (.d (.bool x))=>some (.d (.bool (c0&&x)),c0=true→g=true)
  | .d (.bool x)=>some (.d (.bool (c0&&x)),True)
  | _=>none
 | _=>none
def pickOr (c b:AV):Option (AV×Prop):=match c with
 | .d (.bool c0)=>match b with
  | .gd g (.d (.bool x))=>some (.d (.bool (c0||x)),c0=false→g=true)
  | .d (.bool x)=>some (.d (.bool (c0||x)),True)
  | _=>none
 | _=>none
theorem pickAnd_ok {c a:Operand} (hρ:∀ z,ρ (.const z)=ofVal z) (ho:o.op=.pick c a (.const (.bool false))) {C:Prop} (h:pickAnd (ρ c) (ρ a)=some (v,C)) (hC:C):OpP P o ρ v:=by
 intro G e w hi hr
 have hc:RepA G (ρ c) (e c):=hr c (by simp [ho,Op.operands])
 have ha:RepA G (ρ a) (e a):=hr a (by simp [ho,Op.operands])
 have hb:RepA G (ρ (.const (.bool false))) (e (.const (.bool false))):=hr _ (by simp [ho,Op.operands])
 rw [hρ] at hb
 have hb':e (.const (.bool false))=.bool false:=RepA.bool_inv hb
 unfold execOp
 simp only [ho,Sem.run_bind]
 unfold pickAnd at h
 split at h
 ·rename_i c0 hce
  rw [hce] at hc
  rw [hc.bool_inv,hb']
  split at h
  ·rename_i g x hae
   rw [hae] at ha
   cases h
   cases c0 with
   | true=>exact ⟨_,rfl,ha.gd_inv (hC rfl)⟩
   | false=>exact ⟨_,rfl,.d (.bool _)⟩
  ·rename_i x hae
   rw [hae] at ha
   cases h
   cases c0 with
   | true=>exact ⟨_,rfl,ha⟩
   | false=>exact ⟨_,rfl,.d (.bool _)⟩
  ·cases h
 ·cases h
theorem pickOr_ok {c b:Operand} (hρ:∀ z,ρ (.const z)=ofVal z) (ho:o.op=.pick c (.const (.bool true)) b) {C:Prop} (h:pickOr (ρ c) (ρ b)=some (v,C)) (hC:C):OpP P o ρ v:=by
 intro G e w hi hr
 have hc:RepA G (ρ c) (e c):=hr c (by simp [ho,Op.operands])
 have ha:RepA G (ρ b) (e b):=hr b (by simp [ho,Op.operands])
 have hb:RepA G (ρ (.const (.bool true))) (e (.const (.bool true))):=hr _ (by simp [ho,Op.operands])
 rw [hρ] at hb
 have hb':e (.const (.bool true))=.bool true:=RepA.bool_inv hb
 unfold execOp
 simp only [ho,Sem.run_bind]
 unfold pickOr at h
 split at h
 ·rename_i c0 hce
  rw [hce] at hc
  rw [hc.bool_inv,hb']
  split at h
  ·rename_i g x hae
   rw [hae] at ha
   cases h
   cases c0 with
   | true=>exact ⟨_,rfl,.d (.bool _)⟩
   | false=>exact ⟨_,rfl,ha.gd_inv (hC rfl)⟩
  ·rename_i x hae
   rw [hae] at ha
   cases h
   cases c0 with
   | true=>exact ⟨_,rfl,.d (.bool _)⟩
   | false=>exact ⟨_,rfl,ha⟩
  ·cases h
 ·cases h
def nilOk:AV→Bool
 | .ptr _ _ | .iptr _ | .bp _ _ _=>true
 | .fn (.func _) _ _=>true
 | _=>false
theorem nilCheck_ok {x:Operand} (ho:o.op=.nilCheck x) (h:nilOk (ρ x)=true):OpP P o ρ (ρ x):=by
 intro G e w hi hr
 have hx:RepA G (ρ x) (e x):=hr x (by simp [ho,Op.operands])
 refine ⟨e x,?_,hx⟩
 unfold execOp
 simp only [ho,Sem.run_bind]
 generalize ρ x=a at hx h
 generalize e x=u at hx
 cases hx with
 | ptr=>rfl
 | iptr=>rfl
 | bp=>rfl
 | fn f fs cs _ _ _ _=>cases f <;> simp [nilOk] at h;rfl
 | _=>cases h
theorem makeFunc_ok {f:Fn} {first cap:Array Operand} (ho:o.op=.makeFunc f first cap):OpP P o ρ (.fn f (first.toList.map ρ) (cap.toList.map ρ)):=by
 intro G e w hi hr
 have hx:∀ x,x∈first.toList∨x∈cap.toList→RepA G (ρ x) (e x):=fun x hx=>hr x (by simp [ho,Op.operands];simpa using hx)
 refine ⟨.func f (first.map e) (cap.map e),?_,.fn f _ _ (by simp) (by simp) (fun j x v h1 h2=>?_) (fun j x v h1 h2=>?_)⟩
 ·unfold execOp;simp [ho,Instr.makeFunc]
 ·simp only [List.getElem?_map,Option.map_eq_some_iff,Array.getElem?_map,Array.getElem?_toList] at h1 h2
  obtain ⟨y,hy,rfl⟩:=h1
  obtain ⟨z,hz,rfl⟩:=h2
  rw [hy] at hz;cases hz
  exact hx y (.inl (List.mem_of_getElem? (by simpa using hy)))
 ·simp only [List.getElem?_map,Option.map_eq_some_iff,Array.getElem?_map,Array.getElem?_toList] at h1 h2
  obtain ⟨y,hy,rfl⟩:=h1
  obtain ⟨z,hz,rfl⟩:=h2
  rw [hy] at hz;cases hz
  exact hx y (.inr (List.mem_of_getElem? (by simpa using hy)))
def faddr (T:Tr) (t f:Nat) (x:AV):Option AV:=match fieldT T t f with
 | some (o,s,_)=>match Nat.beq s 0 with
  | true=>none
  | false=>match x with
   | .ptr i off=>some (.ptr i (off+o))
   | .iptr cs=>some (.iptr (cs.drop o))
   | _=>none
 | none=>none
theorem iptr_drop {G:Gh} {cs:List Dat} {v:Value} (h:RepA G (.iptr cs) v) (k:Nat):∃ a,v=.pointer (some a)∧RepA G (.iptr (cs.drop k)) (.pointer (some (a.add k))):=by
 cases h with
 | iptr a vs h1 h2 h3 =>
  refine ⟨a,rfl,.iptr _ (fun j=>vs (k+j)) (add_spot a h1 k) (fun j d hd=>?_) (fun j d hd=>?_)⟩
  ·rw [qCx a h1];exact h2 _ d (by simpa using hd)
  ·exact h3 _ d (by simpa using hd)
theorem fieldAddr_ok (hT:TOk P T) {t f:Nat} {x:Operand} (ho:o.op=.fieldAddr t x f) (h:faddr T t f (ρ x)=some v):OpP P o ρ v:=by
 intro G e w hi hr
 have hx:RepA G (ρ x) (e x):=hr x (by simp [ho,Op.operands])
 unfold faddr at h
 split at h
 ·rename_i of s g hf
  obtain ⟨fields,fd,h1,h2,h3,⟨i,h4,h5⟩,h6⟩:=fieldT_ok hT hf
  split at h
  ·cases h
  ·rename_i hs
   have hs':¬ s=0:=fun hh=>by subst hh;simp at hs
   have hrun:∀ a:Addr,(Instr.fieldAt t (.pointer (some a)) f).run P w=.ok (.pointer (some (a.add of))) w:=by
    intro a
    simp [Instr.fieldAt,run_underlying h1,h2,Instr.sureAddr,fieldPlace,Go.sizeOf,typeInfo,h4,h5,hs',h3]
   unfold execOp
   simp only [ho,Sem.run_bind]
   split at h
   ·rename_i i' off hxe
    cases h
    rw [hxe] at hx
    obtain ⟨b,hb,hl⟩:=hx.ptr_inv
    rw [hb,hrun,qDb]
    exact ⟨_,rfl,.ptr _ hl⟩
   ·rename_i cs hxe
    cases h
    rw [hxe] at hx
    obtain ⟨a,ha,hra⟩:=iptr_drop hx of
    rw [ha,hrun]
    exact ⟨_,rfl,hra⟩
   ·cases h
 ·cases h
def partA (T:Tr) (t f:Nat) (x:AV):Option AV:=match fieldT T t f with
 | some (o,s,g)=>match x with
  | .agg cs=>match g with
   | true=>match Nat.ble (o+s) cs.length with
    | true=>some (.agg ((cs.drop o).take s))
    | false=>none
   | false=>cs[o]?
  | _=>none
 | none=>none
theorem field_ok (hT:TOk P T) {t f:Nat} {x:Operand} (ho:o.op=.field t x f) (h:partA T t f (ρ x)=some v):OpP P o ρ v:=by
 intro G e w hi hr
 have hx:RepA G (ρ x) (e x):=hr x (by simp [ho,Op.operands])
 unfold partA at h
 split at h
 ·rename_i of s g hf
  obtain ⟨fields,fd,h1,h2,h3,⟨i,h4,h5⟩,d,h6,h7⟩:=fieldT_ok hT hf
  split at h
  ·rename_i cs hxe
   rw [hxe] at hx
   generalize hu:e x=u at hx
   cases hx with
   | agg vs k1 k2 k3 =>
   have hagg:(isAgg fd.type).run P w=.ok g w:=by
    unfold isAgg
    rw [Sem.run_bind,run_underlying h6 w]
    cases d <;> simp_all
   unfold execOp
   simp only [ho,Sem.run_bind]
   split at h
   ·split at h
    ·rename_i hble
     have hle:of+s≤cs.length:=Nat.le_of_ble_eq_true hble
     cases h
     refine ⟨.agg (vs.extract of (of+s)),?_,.agg _ ?_ (fun j c y hc hy=>?_) (fun j y hy=>?_)⟩
     ·simp [Instr.field,hu,run_underlying h1,h2,asAgg,part,hagg,Go.sizeOf,typeInfo,h4,h5,h3]
     ·simp;omega
     ·simp only [List.getElem?_take,List.getElem?_drop,Array.getElem?_extract] at hc hy
      split at hc
      ·split at hy
       ·exact k2 _ c y hc hy
       ·cases hy
      ·cases hc
     ·simp only [Array.getElem?_extract] at hy
      split at hy
      ·exact k3 _ y hy
      ·cases hy
    ·cases h
   ·have hlt:of < vs.size:=by
     rw [k1]
     exact (List.getElem?_eq_some_iff.1 h).1
    obtain ⟨y,hy⟩:∃ y,vs[of]?=some y:=⟨vs[of],by simp [hlt]⟩
    refine ⟨y,?_,k2 _ _ _ h hy⟩
    simp [Instr.field,hu,run_underlying h1,h2,asAgg,part,hagg,h3,hy]
  ·cases h
 ·cases h
theorem qAi (hT:TOk P T) {t sz:Nat} {x ix:Operand} {k:IntKind} {i:Int} {es:List (List Dat)} {el:List Dat} (ho:o.op=.indexAddr t x ix) (hs:sliceElem T t sz=true)
  (hx:asEs (ρ x)=some (sz,es)) (hix:ρ ix=.d (.int k i)) (h0:0≤i) (hel:es[i.toNat]?=some el):OpP P o ρ (.iptr el):=by
 intro G e w hi hr
 have hx':RepD G.imm (.sl sz es) (e x):=asEs_ok (hr x (by simp [ho,Op.operands])) hx
 have hix':RepA G (ρ ix) (e ix):=hr ix (by simp [ho,Op.operands])
 rw [hix] at hix'
 obtain ⟨et,ie,h1,h2,h3⟩:=qDo hT hs
 obtain ⟨a,cap,hv,hn,hp⟩:=hx'.slice_inv
 have hlt:i.toNat < es.length:=(List.getElem?_eq_some_iff.1 hel).1
 cases a with
 | none=>have:=(hn rfl).1;subst this;simp at hlt
 | some p =>
  obtain ⟨p1,p2,p3,vs,p4,p5⟩:=hp p rfl
  have hlti:i < (es.length:Int):=by omega
  refine ⟨.pointer (some (p.add (i.toNat*sz))),?_,.iptr _ (fun j=>vs (i.toNat*sz+j)) (add_spot p p1 _) (fun j d hd=>?_) (fun j d hd=>p5 _ _ _ _ hel hd)⟩
  ·unfold execOp
   simp only [ho,Sem.run_bind]
   rw [hv,hix'.int_inv]
   simp [Instr.indexAt,asIntOf,run_underlying h1,h0,hlti,h2.run_size,h3]
  ·rw [qCx p p1];exact p4 _ _ _ _ hel hd
def strAt (s:List UInt8) (i:Int):Int:=((s[i.toNat]?.getD 0).toNat:Int)
def indexStr (T:Tr) (t:Nat) (x ix:AV):Option (AV×Prop):=match x with
 | .d (.str s)=>match ix with
  | .d (.int _ i)=>match isStrT T t with
   | true=>some (.d (.int .u8 (strAt s i)),0≤i∧i < (s.length:Int))
   | false=>none
  | _=>none
 | _=>none
theorem indexStr_ok (hT:TOk P T) {t:Nat} {x ix:Operand} (ho:o.op=.index t x ix) {C:Prop} (h:indexStr T t (ρ x) (ρ ix)=some (v,C)) (hC:C):OpP P o ρ v:=by
 intro G e w hi hr
 have hx:RepA G (ρ x) (e x):=hr x (by simp [ho,Op.operands])
 have hix:RepA G (ρ ix) (e ix):=hr ix (by simp [ho,Op.operands])
 unfold indexStr at h
 split at h
 ·rename_i s hxe
  split at h
  ·rename_i k i hie
   split at h
   ·rename_i hs
    cases h
    rw [hxe] at hx
    rw [hie] at hix
    have hu:=qCs hT hs
    refine ⟨.int .u8 (strAt s i),?_,.d (.int _ _)⟩
    unfold execOp
    simp only [ho,Sem.run_bind]
    rw [hx.str_inv,hix.int_inv]
    have hlt:i.toNat < s.length:=by omega
    have hg:(⟨s.toArray⟩:ByteArray)[i.toNat]?=some (s[i.toNat]):=by
     rw [getElem?_pos _ _ (by rw [ba_size];exact hlt)]
     rfl
    simp [Instr.index,asIntOf,run_underlying hu,hC.1,hg,strAt,hlt]
   ·cases h
  ·cases h
 ·cases h
def optInt (ρ:Operand→AV):Option Operand→Option (Option Int)
 | none=>some none
 | some x=>match ρ x with
  | .d (.int _ i)=>some (some i)
  | _=>none
def cutL {α:Type} (s:List α) (l h:Int):List α:=(s.drop l.toNat).take (h.toNat-l.toNat)
def sliceA (T:Tr) (t:Nat) (x:AV) (lo hi:Option Int):Option (AV×Prop):=match x with
 | .d (.str s)=>match isStrT T t with
  | true=>match lo,hi with
   | none,none=>some (.d (.str s),True)
   | some l,none=>some (.d (.str (s.drop l.toNat)),0≤l∧l≤(s.length:Int))
   | none,some h=>some (.d (.str (s.take h.toNat)),0≤h∧h≤(s.length:Int))
   | some l,some h=>some (.d (.str (cutL s l h)),0≤l∧l≤h∧h≤(s.length:Int))
  | false=>none
 | x=>match asEs x with
  | some (sz,es)=>match sliceElem T t sz with
   | true=>match lo,hi with
    | none,none=>some (.d (.sl sz es),True)
    | some l,none=>some (.d (.sl sz (es.drop l.toNat)),0≤l∧l≤(es.length:Int))
    | none,some h=>some (.d (.sl sz (es.take h.toNat)),0≤h∧h≤(es.length:Int))
    | some l,some h=>some (.d (.sl sz (cutL es l h)),0≤l∧l≤h∧h≤(es.length:Int))
   | false=>none
  | none=>none
end ops
end Tdoc
namespace Tdoc
open Go
theorem RepD.cut {m:Addr→Option Value} {sz:Nat} {es:List (List Dat)} {a:Option Addr} {len cap:Nat} (h:RepD m (.sl sz es) (.slice a len cap)) {l r:Nat} (hl:l≤r) (hr:r≤len) :
  RepD m (.sl sz ((es.drop l).take (r-l))) (.slice (if cap=l then a else a.map (·.add (l*sz))) (r-l) (cap-l)):=by
 cases h with
 | nil =>
  obtain rfl:r=0:=by omega
  obtain rfl:l=0:=by omega
  exact .nil sz
 | sl _ _ p _ vs h1 h2 h3 h4 h5 =>
  have hlen:((es.drop l).take (r-l)).length=r-l:=by simp;omega
  by_cases hc:cap=l
  ·have:(es.drop l).take (r-l)=[]:=by
    apply List.eq_nil_of_length_eq_zero;rw [hlen];omega
   rw [if_pos hc,this]
   have h0:r-l=([]:List (List Dat)).length:=by simp;omega
   rw [h0]
   exact .sl sz [] p _ vs h1 (by simp) (fun e he=>by cases he) (fun i e j d he=>by simp at he) (fun i e j d he=>by simp at he)
  ·rw [if_neg hc]
   simp only [Option.map_some]
   rw [show r-l=((es.drop l).take (r-l)).length from hlen.symm]
   rw [show ((es.drop l).take ((es.drop l).take (r-l)).length)=(es.drop l).take (r-l) by rw [hlen]]
   refine .sl sz _ (p.add (l*sz)) _ (fun i=>vs (l*sz+i)) (add_spot p h1 _) (by rw [hlen];omega) (fun e he=>h3 e (List.mem_of_mem_drop (List.mem_of_mem_take he))) (fun i e j d he hd=>?_) (fun i e j d he hd=>?_)
   ·simp only [List.getElem?_take,List.getElem?_drop] at he
    split at he
    ·rw [qCx p h1]
     have:=h4 (l+i) e j d he hd
     rwa [show (l+i)*sz+j=l*sz+(i*sz+j) by rw [Nat.add_mul];omega] at this
    ·cases he
   ·simp only [List.getElem?_take,List.getElem?_drop] at he
    split at he
    ·have:=h5 (l+i) e j d he hd
     rwa [show (l+i)*sz+j=l*sz+(i*sz+j) by rw [Nat.add_mul];omega] at this
    ·cases he
section ops
variable {P:Program} {T:Tr} {o:Oper} {ρ:Operand→AV} {v:AV}
theorem optInt_some {G:Gh} {e:Operand→Value} {x:Option Operand} {r:Option Int} (hr:∀ y,x=some y→RepA G (ρ y) (e y)) (h:optInt ρ x=some r) :
  (x=none∧r=none)∨∃ y k i,x=some y∧r=some i∧e y=.int k i:=by
 unfold optInt at h
 split at h
 ·cases h;exact .inl ⟨rfl,rfl⟩
 ·rename_i y
  split at h
  ·rename_i k i hy
   cases h
   have:=hr y rfl
   rw [hy] at this
   exact .inr ⟨y,k,i,rfl,rfl,this.int_inv⟩
  ·cases h
theorem qBf {w:World} (k:IntKind) (i:Int) (y:Nat) (code:BoundsCode) (h:0≤i∧i≤(y:Int)):(Instr.sliceBound (.int k i) y code).run P w=.ok i.toNat w:=by
 simp [Instr.sliceBound,asIntOf,h]
theorem sliceA_ok (hT:TOk P T) {t:Nat} {x:Operand} {lo hi:Option Operand} (ho:o.op=.slice t x lo hi none) {l h:Option Int} (hl:optInt ρ lo=some l) (hh:optInt ρ hi=some h) {C:Prop}
  (hv:sliceA T t (ρ x) l h=some (v,C)) (hC:C):OpP P o ρ v:=by
 intro G e w hi' hr
 have hx:RepA G (ρ x) (e x):=hr x (by simp [ho,Op.operands])
 have hlo:=optInt_some (G:=G) (e:=e) (fun y hy=>hr y (by simp [ho,Op.operands,hy])) hl
 have hhi:=optInt_some (G:=G) (e:=e) (fun y hy=>hr y (by simp [ho,Op.operands,hy])) hh
 unfold execOp
 simp only [ho,Sem.run_bind]
 unfold sliceA at hv
 split at hv
 ·rename_i s hxe
  rw [hxe] at hx
  rw [hx.str_inv]
  split at hv
  ·rename_i hst
   have hu:=qCs hT hst
   have hext:∀ a b:Nat,(⟨s.toArray⟩:ByteArray).extract a b=⟨((s.drop a).take (b-a)).toArray⟩:=by
    intro a b
    apply ByteArray.ext
    simp [ByteArray.data_extract]
   rcases hlo with ⟨rfl,rfl⟩ | ⟨ly,lk,li,rfl,rfl,hly⟩ <;> rcases hhi with ⟨rfl,rfl⟩ | ⟨hy,hk,hi2,rfl,rfl,hhy⟩
   ·simp only at hv;cases hv
    refine ⟨.string ⟨s.toArray⟩,?_,.d (.str _)⟩
    simp [Instr.sliceAt,Instr.slice,run_underlying hu,Instr.sliceBounds,hext,ba_size]
   ·simp only at hv;cases hv
    refine ⟨.string ⟨(s.take hi2.toNat).toArray⟩,?_,.d (.str _)⟩
    simp [Instr.sliceAt,Instr.slice,run_underlying hu,Instr.sliceBounds,hext,ba_size,hhy,qBf _ _ _ _ hC]
   ·simp only at hv;cases hv
    refine ⟨.string ⟨(s.drop li.toNat).toArray⟩,?_,.d (.str _)⟩
    have htk:List.take (s.length-li.toNat) (List.drop li.toNat s)=List.drop li.toNat s:=List.take_of_length_le (by simp)
    simp [Instr.sliceAt,Instr.slice,run_underlying hu,Instr.sliceBounds,hext,ba_size,hly,qBf _ _ _ _ hC,htk]
   ·simp only at hv;cases hv
    refine ⟨.string ⟨(cutL s li hi2).toArray⟩,?_,.d (.str _)⟩
    have h1:0≤hi2∧hi2≤(s.length:Int):=by omega
    have h2:0≤li∧li≤(hi2.toNat:Int):=by omega
    simp [Instr.sliceAt,Instr.slice,run_underlying hu,Instr.sliceBounds,hext,ba_size,hly,hhy,qBf _ _ _ _ h1,qBf _ _ _ _ h2,cutL]
  ·cases hv
 ·split at hv
  ·rename_i sz es hes
   split at hv
   ·rename_i hse
    obtain ⟨et,ie,h1,h2,h3⟩:=qDo hT hse
    have hx':=asEs_ok hx hes
    obtain ⟨a,cap,hvv,hn,hp⟩:=hx'.slice_inv
    have hcap:es.length≤cap:=by
     cases a with
     | none=>have:=hn rfl;rw [this.1,this.2];simp
     | some p=>exact (hp p rfl).2.1
    rw [hvv] at hx' ⊢
    rcases hlo with ⟨rfl,rfl⟩ | ⟨ly,lk,li,rfl,rfl,hly⟩ <;> rcases hhi with ⟨rfl,rfl⟩ | ⟨hy,hk,hi2,rfl,rfl,hhy⟩
    ·simp only at hv;cases hv
     refine ⟨_,?_,.d (by have:=hx'.cut (l:=0) (r:=es.length) (by omega) (Nat.le_refl _);simpa using this)⟩
     simp [Instr.sliceAt,Instr.slice,run_underlying h1,Instr.sliceBounds,h2.run_size,h3]
    ·simp only at hv;cases hv
     have hb:0≤hi2∧hi2≤(cap:Int):=by omega
     refine ⟨_,?_,.d (by have:=hx'.cut (l:=0) (r:=hi2.toNat) (by omega) (by omega);simpa using this)⟩
     simp [Instr.sliceAt,Instr.slice,run_underlying h1,Instr.sliceBounds,h2.run_size,h3,hhy,qBf _ _ _ _ hb]
    ·simp only at hv;cases hv
     refine ⟨_,?_,.d (by have:=hx'.cut (l:=li.toNat) (r:=es.length) (by omega) (by omega);rw [List.take_of_length_le (by simp)] at this;exact this)⟩
     simp [Instr.sliceAt,Instr.slice,run_underlying h1,Instr.sliceBounds,h2.run_size,h3,hly,qBf _ _ _ _ hC]
    ·simp only at hv;cases hv
     have hb:0≤hi2∧hi2≤(cap:Int):=by omega
     have hb2:0≤li∧li≤(hi2.toNat:Int):=by omega
     refine ⟨_,?_,.d (hx'.cut (l:=li.toNat) (r:=hi2.toNat) (by omega) (by omega))⟩
     simp [Instr.sliceAt,Instr.slice,run_underlying h1,Instr.sliceBounds,h2.run_size,h3,hly,hhy,qBf _ _ _ _ hb,qBf _ _ _ _ hb2]
   ·cases hv
  ·cases hv
def lenA (T:Tr) (t:Nat) (x:AV):Option AV:=match x with
 | .d (.str s)=>match isStrT T t with
  | true=>some (.d (.int .i64 (s.length:Int)))
  | false=>none
 | .nils=>match isSliceT T t with
  | true=>some (.d (.int .i64 0))
  | false=>none
 | .bm _ n=>match isSliceT T t with
  | true=>some (.d (.int .i64 (n:Int)))
  | false=>none
 | .row _ _ n _=>match isSliceT T t with
  | true=>some (.d (.int .i64 (n:Int)))
  | false=>none
 | x=>match asEs x with
  | some (_,es)=>match isSliceT T t with
   | true=>some (.d (.int .i64 (es.length:Int)))
   | false=>none
  | none=>none
theorem lenA_ok (hT:TOk P T) {t:Nat} {x:Operand} (ho:o.op=.call { callee:=.builtin .len,args:=#[x],argTypes:=#[t] }) (h:lenA T t (ρ x)=some v):OpP P o ρ v:=by
 intro G e w hi hr
 have hx:RepA G (ρ x) (e x):=hr x (by simp [ho,Op.operands,Call.operands])
 unfold execOp
 simp only [ho,Sem.run_bind,resolve,invoke,builtin]
 unfold lenA at h
 split at h
 ·rename_i s hxe
  rw [hxe] at hx
  split at h
  ·rename_i hs;cases h
   have hu:=qCs hT hs
   refine ⟨.int .i64 (s.length:Int),?_,.d (.int _ _)⟩
   simp [Builtin.len_,hx.str_inv,run_underlying hu,goInt,ba_size]
  ·cases h
 ·rename_i hxe
  rw [hxe] at hx
  split at h
  ·rename_i hs;cases h
   obtain ⟨et,hu⟩:=und_of_slice hT hs
   refine ⟨.int .i64 0,?_,.d (.int _ _)⟩
   generalize hv:e x=u at hx
   cases hx
   simp [Builtin.len_,hv,run_underlying hu,goInt]
  ·cases h
 ·rename_i n hxe
  rw [hxe] at hx
  split at h
  ·rename_i hs;cases h
   obtain ⟨et,hu⟩:=und_of_slice hT hs
   refine ⟨.int .i64 (n:Int),?_,.d (.int _ _)⟩
   generalize hv:e x=u at hx
   cases hx
   simp [Builtin.len_,hv,run_underlying hu,goInt]
  ·cases h
 ·rename_i n _ hxe
  rw [hxe] at hx
  split at h
  ·rename_i hs;cases h
   obtain ⟨et,hu⟩:=und_of_slice hT hs
   refine ⟨.int .i64 (n:Int),?_,.d (.int _ _)⟩
   generalize hv:e x=u at hx
   cases hx
   simp [Builtin.len_,hv,run_underlying hu,goInt]
  ·cases h
 ·split at h
  ·rename_i sz es hes
   split at h
   ·rename_i hs;cases h
    obtain ⟨et,hu⟩:=und_of_slice hT hs
    obtain ⟨a,cap,hv,_⟩:=(asEs_ok hx hes).slice_inv
    refine ⟨.int .i64 (es.length:Int),?_,.d (.int _ _)⟩
    simp [Builtin.len_,hv,run_underlying hu,goInt]
   ·cases h
  ·cases h
def loadI (T:Tr) (t:Nat) (cs:List Dat):Option AV:=match T.find t with
 | some i=>match i.agg with
  | true=>match Nat.ble i.size cs.length with
   | true=>some (.agg ((cs.take i.size).map .d))
   | false=>none
  | false=>match cs[0]? with
   | some d=>some (.d d)
   | none=>none
 | none=>none
theorem loadI_ok (hT:TOk P T) {t:Nat} {x:Operand} {cs:List Dat} (ho:o.op=.load t x) (hx:ρ x=.iptr cs) (h:loadI T t cs=some v):OpP P o ρ v:=by
 intro G e w hi hr
 have hx':RepA G (ρ x) (e x):=hr x (by simp [ho,Op.operands])
 rw [hx] at hx'
 generalize hu:e x=u at hx'
 cases hx' with
 | iptr a vs h1 h2 h3 =>
 unfold execOp
 simp only [ho,Sem.run_bind,Instr.loadAt,hu,Instr.sureAddr]
 unfold loadI at h
 split at h
 ·rename_i i hf
  have hti:=hT.at hf
  split at h
  ·rename_i hagg
   split at h
   ·rename_i hble
    have hle:=Nat.le_of_ble_eq_true hble
    cases h
    have hl:(loadCells a i.size).run P w=.ok ((List.range i.size).map vs).toArray w:=by
     refine run_loadCells (P:=P) w a i.size vs (fun j hj=>?_)
     have:cs[j]?=some cs[j]:=by simp [show j < cs.length by omega]
     exact hi _ _ (h2 j _ this)
    refine ⟨.agg ((List.range i.size).map vs).toArray,?_,.agg _ (by simp;omega) (fun j c y hc hy=>?_) (fun j y hy=>?_)⟩
    ·simp [loadVar,hti.run_agg,hagg,hti.run_size,hl]
    ·simp only [List.getElem?_map,Option.map_eq_some_iff,List.getElem?_take] at hc
     obtain ⟨d,hd,rfl⟩:=hc
     split at hd
     ·rename_i hj
      simp [hj] at hy
      subst hy
      exact .d (h3 j d hd)
     ·cases hd
    ·by_cases hj:j < i.size
     ·simp [hj] at hy
      subst hy
      have:cs[j]?=some cs[j]:=by simp [show j < cs.length by omega]
      exact (h3 j _ this).one
     ·simp [hj] at hy
   ·cases h
  ·rename_i hagg
   split at h
   ·rename_i d hd
    cases h
    have hc:=hi _ _ (h2 0 d hd)
    refine ⟨vs 0,?_,.d (h3 0 d hd)⟩
    have ha0:a.add 0=a:=by simp [Addr.add]
    rw [ha0] at hc
    simp [loadVar,hti.run_agg,hagg,hc]
   ·cases h
 ·cases h
def extractA (n:Nat) (x:AV):Option AV:=match x with
 | .tup vs=>vs[n]?
 | _=>none
theorem extractA_ok {x:Operand} {n:Nat} (ho:o.op=.extract x n) (h:extractA n (ρ x)=some v):OpP P o ρ v:=by
 intro G e w hi hr
 have hx:RepA G (ρ x) (e x):=hr x (by simp [ho,Op.operands])
 unfold execOp
 simp only [ho,Sem.run_bind]
 unfold extractA at h
 split at h
 ·rename_i vs hxe
  rw [hxe] at hx
  generalize hu:e x=u at hx
  cases hx with
  | tup us h1 h2 =>
  have hlt:n < us.size:=by rw [h1];exact (List.getElem?_eq_some_iff.1 h).1
  have hg:us[n]?=some us[n]:=by simp [hlt]
  exact ⟨us[n],by simp [Instr.extract,hg],h2 n v _ h hg⟩
 ·cases h
def numOf:List Dat→Int
 | [.int _ n]=>n
 | _=>0
def bytesOf (es:List (List Dat)):List UInt8:=es.map fun e=>UInt8.ofNat (numOf e).toNat
def byteCells (es:List (List Dat)):Prop:=∀ e,e∈es→∃ n:Int,e=[.int .u8 n]
def isByteSlice (T:Tr) (t:Nat):Bool:=match T.find t with
 | some i=>match i.kind with
  | .slice e=>match T.find e with
   | some ie=>match ie.kind with
    | .int .u8=>true
    | _=>false
   | none=>false
  | _=>false
 | none=>false
theorem qCt (hT:TOk P T) {t:Nat} (h:isByteSlice T t=true):∃ e,P.underlying t=some (.slice e)∧P.underlying e=some (.int .u8):=by
 unfold isByteSlice at h
 split at h
 ·rename_i i hi
  split at h
  ·rename_i e hk
   split at h
   ·rename_i ie hie
    split at h
    ·rename_i hke
     obtain ⟨d,hd,hkd⟩:=(hT.at hi).und
     rw [hk] at hkd
     cases d <;> simp [kindOk] at hkd
     subst hkd
     obtain ⟨d2,hd2,hkd2⟩:=(hT.at hie).und
     rw [hke] at hkd2
     cases d2 <;> simp [kindOk] at hkd2
     rw [← kEq_eq hkd2] at hd2
     exact ⟨e,hd,hd2⟩
    ·cases h
   ·cases h
  ·cases h
 ·cases h
def convA (T:Tr) (s t:Nat) (x:AV):Option (AV×Prop):=match x with
 | .d (.int _ n)=>match intKindT T t with
  | some k=>match intKindT T s with
   | some _=>some (.d (.int k (k.wrap n)),True)
   | none=>none
  | none=>none
 | .d (.str b)=>match isStrT T s&&isStrT T t with
  | true=>some (.d (.str b),True)
  | false=>none
 | x=>match asEs x with
  | some (_,es)=>match isByteSlice T s&&isStrT T t with
   | true=>some (.d (.str (bytesOf es)),byteCells es)
   | false=>none
  | none=>none
theorem foldl_push (ns:List Int):∀ (s:ByteArray),ns.foldl (fun r n=>r.push (UInt8.ofNat n.toNat)) s=⟨(s.data.toList++ns.map fun n=>UInt8.ofNat n.toNat).toArray⟩:=by
 induction ns with
 | nil=>intro s;obtain ⟨⟨l⟩⟩:=s;simp
 | cons n ns ih =>
  intro s
  obtain ⟨⟨l⟩⟩:=s
  simp only [List.foldl_cons,ih,List.map_cons]
  simp [ByteArray.push]
theorem convA_ok (hT:TOk P T) {s t:Nat} {x:Operand} (ho:o.op=.convert s t x) {C:Prop} (h:convA T s t (ρ x)=some (v,C)) (hC:C):OpP P o ρ v:=by
 intro G e w hi hr
 have hx:RepA G (ρ x) (e x):=hr x (by simp [ho,Op.operands])
 unfold execOp
 simp only [ho,Sem.run_bind]
 unfold convA at h
 split at h
 ·rename_i k n hxe
  rw [hxe] at hx
  split at h
  ·rename_i k' hk
   split at h
   ·rename_i k2 hk2
    cases h
    refine ⟨.int k' (k'.wrap n),?_,.d (.int _ _)⟩
    simp [Go.convert,run_underlying (und_of_int hT hk),run_underlying (und_of_int hT hk2),hx.int_inv,Conv.intToInt]
   ·cases h
  ·cases h
 ·rename_i b hxe
  rw [hxe] at hx
  split at h
  ·rename_i hs
   simp only [Bool.and_eq_true] at hs
   cases h
   refine ⟨.string ⟨b.toArray⟩,?_,.d (.str _)⟩
   simp [Go.convert,run_underlying (qCs hT hs.1),run_underlying (qCs hT hs.2),hx.str_inv]
  ·cases h
 ·split at h
  ·rename_i sz es hes
   split at h
   ·rename_i hs
    simp only [Bool.and_eq_true] at hs
    cases h
    obtain ⟨et,h1,h2⟩:=qCt hT hs.1
    have h3:=qCs hT hs.2
    obtain ⟨a,cap,hv,hn,hp⟩:=(asEs_ok hx hes).slice_inv
    rw [hv]
    cases a with
    | none =>
     obtain ⟨rfl,rfl⟩:=hn rfl
     refine ⟨.string .empty,?_,.d (.str [])⟩
     simp [Go.convert,run_underlying h1,run_underlying h2,run_underlying h3,Conv.bytesToString]
    | some p =>
     obtain ⟨p1,p2,p3,vs,p4,p5⟩:=hp p rfl
     have hb:∀ i:Nat,(hlt:i < es.length)→∃ n:Int,es[i]?=some [Dat.int .u8 n]∧vs (i*sz)=.int .u8 n∧w.cell? (p.add (i*sz))=some (.int .u8 n):=by
      intro i hlt
      have he:es[i]?=some es[i]:=by simp [hlt]
      obtain ⟨n,hn'⟩:=hC _ (List.mem_of_getElem? he)
      rw [hn'] at he
      have hr':=p5 i _ 0 _ he rfl
      have hm:=hi _ _ (p4 i _ 0 _ he rfl)
      simp only [Nat.add_zero] at hr' hm
      have:vs (i*sz)=.int .u8 n:=by generalize vs (i*sz)=q at hr';cases hr';rfl
      exact ⟨n,he,this,by rw [this] at hm;exact hm⟩
     have hsz:es≠[]→sz=1:=by
      intro hne
      obtain ⟨e0,he0⟩:=List.exists_mem_of_ne_nil _ hne
      obtain ⟨n,hn'⟩:=hC _ he0
      have:=p3 _ he0
      rw [hn'] at this
      simpa using this.symm
     let ns:List Int:=es.map numOf
     have hnl:ns.length=es.length:=by simp [ns]
     have hni:∀ (i:Nat) (n:Int),es[i]?=some [Dat.int .u8 n]→ns[i]?=some n:=by
      intro i n he;simp [ns,he,numOf]
     have hl:(loadCells p es.length).run P w=.ok (ns.map (Value.int .u8)).toArray w:=by
      have:=run_loadCells (P:=P) w p es.length (fun j=>Value.int .u8 (ns.getD j 0)) (fun j hj=>by
       obtain ⟨n,g1,g2,g3⟩:=hb j hj
       have hz:=hsz (by intro h0;rw [h0] at hj;simp at hj)
       rw [hz,Nat.mul_one] at g3
       rw [g3];simp [List.getD,hni j n g1])
      rw [this]
      congr 2
      apply List.ext_getElem?
      intro j
      by_cases hj:j < es.length
      ·have hj':j < ns.length:=by omega
       simp [hj,hj',List.getD]
      ·have hj':¬ j < ns.length:=by omega
       simp [hj,hj',List.getElem?_eq_none (Nat.le_of_not_lt hj')]
     refine ⟨_,?_,.d (.str _)⟩
     simp [Go.convert,run_underlying h1,run_underlying h2,run_underlying h3,run_bytesToString w p es.length cap ns hl,foldl_push,bytesOf,ns]
   ·cases h
  ·cases h
end ops
end Tdoc
namespace Tdoc
open Go
def OpS (P:Program) (E:Env) (o:Oper) (ρ:Operand→AV) (h:List AObj) (v:AV) (h':List AObj):Prop :=
 ∀ (G:Gh) (a:Act) (w:World),WRel E G h w→(∀ x,x∈o.op.operands.toList→RepA G (ρ x) (a.eval x)) →
  o.wp P a w (fun a' w'=>∃ u G',a'=a.put o.dst u∧G.le G'∧WRel E G' h' w'∧RepA G' v u) (fun _ _ _=>False)
section
variable {P:Program} {E:Env} {o:Oper} {ρ:Operand→AV} {h h':List AObj} {v:AV}
theorem qBi (H:∀ (G:Gh) (e:Operand→Value) (w:World),WRel E G h w→(∀ x,x∈o.op.operands.toList→RepA G (ρ x) (e x)) →
  ∃ u w' G',(execOp e o).run P w=.ok (.value u) w'∧G.le G'∧WRel E G' h' w'∧RepA G' v u):OpS P E o ρ h v h':=by
 intro G a w hw hr
 obtain ⟨u,w',G',h1,h2,h3,h4⟩:=H G a.eval w hw hr
 unfold Oper.wp
 rw [h1]
 exact ⟨u,G',rfl,h2,h3,h4⟩
theorem OpS_of_skip (H:∀ (G:Gh) (e:Operand→Value) (w:World),WRel E G h w→(∀ x,x∈o.op.operands.toList→RepA G (ρ x) (e x)) →
  ∃ w' G',(execOp e o).run P w=.ok .skip w'∧G.le G'∧WRel E G' h' w'):OpS P E o ρ h .any h':=by
 intro G a w hw hr
 obtain ⟨w',G',h1,h2,h3⟩:=H G a.eval w hw hr
 unfold Oper.wp
 rw [h1]
 exact ⟨undef,G',rfl,h2,h3,.any _⟩
theorem qAc (H:OpP P o ρ v):OpS P E o ρ h v h :=
 qBi fun G e w hw hr=>by
  obtain ⟨u,h1,h2⟩:=H G e w hw.imm hr
  exact ⟨u,w,G,h1,.refl G,hw,h2⟩
theorem RowAt.keep {G G':Gh} {w w':World} {b:Nat} {cells:List AV} (hle:G.le G') (hb:w'.heap[b]?=w.heap[b]?) (hr:RowAt G w b cells):RowAt G' w' b cells:=by
 intro j c hj
 obtain ⟨v,h1,h2,h3,h4⟩:=hr j c hj
 exact ⟨v,by rw [World.cell?_of_block (w:=w) hb];exact h1,h2,h3.mono hle,by rw [World.frozen?_of_block (w:=w) hb];exact h4⟩
theorem BufOk.trans {G G':Gh} {w w':World} {i i' sz n cap:Nat} {cells cells':List AV} {a:Option Addr} (h:BufOk G w i sz n cap cells a) (hlen:cells'.length=cells.length)
  (hs:∀ b,G.own b=some i→G'.own b=some i'∧w'.heap[b]?=w.heap[b]?∧∀ x:Addr,x.block=b→G.imm x=none→G'.imm x=none)
  (hc:∀ (j:Nat) (c':AV),cells'[j]?=some c'→∃ c,cells[j]?=some c∧∀ v,RepA G c v→RepA G' c' v):BufOk G' w' i' sz n cap cells' a:=by
 obtain ⟨h1,h2,h3,h4⟩:=h
 refine ⟨by rw [hlen];exact h1,h2,h3,fun p hp hc0=>?_⟩
 obtain ⟨q1,q2,q3,q4⟩:=h4 p hp hc0
 obtain ⟨k1,k2,k3⟩:=hs _ q2
 have hb:∀ j,w'.heap[(p.add j).block]?=w.heap[(p.add j).block]?:=fun j=>by rw [qCq];exact k2
 refine ⟨q1,k1,fun j c' hj=>?_,fun j hj=>?_⟩
 ·obtain ⟨c,hcj,hr⟩:=hc j c' hj
  obtain ⟨v,r1,r2,r3⟩:=q3 j c hcj
  exact ⟨v,by rw [World.cell?_of_block (w:=w) (hb j)];exact r1,r2,hr v r3⟩
 ·obtain ⟨⟨v,r1⟩,r2,r3⟩:=q4 j hj
  exact ⟨⟨v,by rw [World.cell?_of_block (w:=w) (hb j)];exact r1⟩,by rw [World.frozen?_of_block (w:=w) (hb j)];exact r2,k3 _ (qCq p j) r3⟩
theorem ObjRel.keep {G G':Gh} {w w':World} {i:Nat} {ob:AObj} (hle:G.le G') (hs:∀ b,G.own b=some i→w'.heap[b]?=w.heap[b]?∧∀ a:Addr,a.block=b→G'.imm a=G.imm a)
  (hrt:∀ n,G.rt i n=none→G'.rt i n=none) (hlc:G.loc i=none→G'.loc i=none) (hr:ObjRel G w i ob):ObjRel G' w' i ob:=by
 cases ob with
 | dead=>trivial
 | room=>exact ⟨hlc hr.1,fun n=>hrt n (hr.2 n)⟩
 | opq R =>
  obtain ⟨b,S,h1,h2,h3,h4,h5,h6⟩:=hr
  exact ⟨b,S,hle.loc _ _ h1,h2,fun n=>hrt n (h3 n),fun k hk=>⟨hle.own _ _ (h4 k hk).1,fun a ha=>by rw [(hs k (h4 k hk).1).2 a ha];exact (h4 k hk).2 a ha⟩,h6 _ _ (fun k hk=>(hs k (h4 k hk).1).1.symm) h5,h6⟩
 | row cells =>
  obtain ⟨b,h1,h2,h3,h4⟩:=hr
  have hk:=hs b h2
  exact ⟨b,hle.loc _ _ h1,hle.own _ _ h2,h3.keep hle hk.1,fun a ha=>by rw [hk.2 a ha];exact h4.1 a ha,fun n=>hrt n (h4.2 n)⟩
 | buf sz n cells =>
  obtain ⟨a,cap,h1,h2,h3⟩:=hr
  exact ⟨a,cap,hle.rt _ _ _ h1,fun n' hn=>hrt _ (h2 n' hn),h3.trans rfl (fun b hb=>⟨hle.own _ _ hb,(hs b hb).1,fun x hx hn=>by rw [(hs b hb).2 x hx];exact hn⟩) (fun j c hj=>⟨c,hj,fun v hv=>hv.mono hle⟩)⟩
 | right sz n =>
  obtain ⟨a,cap,h1,h2,h3,h4⟩:=hr
  refine ⟨a,cap,hle.rt _ _ _ h1,h2,fun n' hn=>hrt _ (h3 n' hn),fun hlt=>?_⟩
  obtain ⟨p,q1,q2,q3,q4⟩:=h4 hlt
  have hk:=hs _ q3
  refine ⟨p,q1,q2,hle.own _ _ q3,fun j hj1 hj2=>?_⟩
  obtain ⟨⟨v,r1⟩,r2,r3⟩:=q4 j hj1 hj2
  have hb:w'.heap[(p.add j).block]?=w.heap[(p.add j).block]?:=by rw [qCq];exact hk.1
  exact ⟨⟨v,by rw [World.cell?_of_block (w:=w) hb];exact r1⟩,by rw [World.frozen?_of_block (w:=w) hb];exact r2,by rw [hk.2 _ (qCq p j)];exact r3⟩
def immExt (G:Gh) (b n:Nat) (cs:Array Value):Gh :=
 { G with imm:=fun a=>if a.block=b then (if a.spot=none∧a.off < n then cs[a.off]? else none) else G.imm a }
theorem qAv (w:World) (ob:Obj) (i:Nat) (h:i < w.heap.size):(w.heap.push ob)[i]?=w.heap[i]?:=by
 rw [Array.getElem?_push,if_neg (by omega)]
theorem immExt_le {E:Env} {G:Gh} {h:List AObj} {w:World} (hw:WRel E G h w) (n:Nat) (cs:Array Value):G.le (immExt G w.heap.size n cs):=by
 refine ⟨fun a v ha=>?_,fun _ _ x=>x,fun _ _ _ x=>x,fun _ _ x=>x⟩
 have hlt:=World.block_lt_of_cell? _ _ (hw.imm a v ha)
 show (if a.block=w.heap.size then _ else G.imm a)=some v
 rw [if_neg (by omega)];exact ha
theorem WRel.newImm {E:Env} {G:Gh} {h:List AObj} {w:World} (hw:WRel E G h w) (n:Nat) (cs:Array Value) (t:TypeId) (w':World) (hh:w'.heap=w.heap.push (.cells cs t)) (ho:w'.os=w.os) (ht:w'.tape=w.tape) (hout:w'.output=w.output) :
  WRel E (immExt G w.heap.size n cs) h w':=by
 have hle:=immExt_le hw n cs
 have hK:¬ E.K w.heap.size:=fun hk=>by have:=hw.size;have:=hk.1;omega
 refine ⟨hw.le.trans hle,fun a v ha=>?_,fun a v ha=>?_,fun b hb=>?_,by rw [hh];simp;have:=hw.size;omega,ho.trans hw.os,ht.trans hw.tape,hout.trans hw.output,fun b i hb=>?_,hw.fresh,fun i ob hi=>?_⟩
 ·have ha':(if a.block=w.heap.size then (if a.spot=none∧a.off < n then cs[a.off]? else none) else G.imm a)=some v:=ha
  split at ha'
  ·rename_i hb
   split at ha'
   ·rename_i hs
    simp only [World.cell?,hh,hb,Array.getElem?_push,if_true,hs.1]
    simpa using ha'
   ·cases ha'
  ·have hc:=hw.imm a v ha'
   have hlt:=World.block_lt_of_cell? _ _ hc
   rw [World.cell?_of_block (w:=w) (by rw [hh];exact qAv _ _ _ hlt)]
   exact hc
 ·have ha':(if a.block=w.heap.size then (if a.spot=none∧a.off < n then cs[a.off]? else none) else G.imm a)=some v:=ha
  split at ha'
  ·rename_i hb;right;rw [hb];exact hK
  ·exact hw.immNew a v ha'
 ·rw [hh,qAv _ _ _ (Nat.lt_of_lt_of_le hb.1 hw.size)];exact hw.keep b hb
 ·have:=hw.own b i hb
  exact ⟨by rw [hh];simp;omega,this.2⟩
 ·refine (hw.obj i ob hi).keep hle (fun b hb=>?_) (fun n hn=>hn) (fun hn=>hn)
  have hlt:=(hw.own b i hb).1
  refine ⟨by rw [hh];exact qAv _ _ _ hlt,fun a ha=>?_⟩
  show (if a.block=w.heap.size then _ else G.imm a)=G.imm a
  rw [if_neg (by omega)]
def rowNew (G:Gh) (i b:Nat):Gh :=
 { G with loc:=fun j=>if j=i then some b else G.loc j,own:=fun c=>if c=b then some i else G.own c }
theorem WRel.newRow {E:Env} {G:Gh} {h:List AObj} {w:World} (hw:WRel E G h w) (cs:Array Value) (t:TypeId) (cells:List AV) (hs:cs.size=cells.length)
  (hc:∀ (j:Nat) (c:AV) (u:Value),cells[j]?=some c→cs[j]?=some u→RepA G c u∧oneC u=true) (w':World) (hh:w'.heap=w.heap.push (.cells cs t)) (ho:w'.os=w.os) (ht:w'.tape=w.tape) (hout:w'.output=w.output) :
  G.le (rowNew G h.length w.heap.size)∧WRel E (rowNew G h.length w.heap.size) (h++[.row cells]) w':=by
 have hf:=hw.fresh h.length (Nat.le_refl _)
 have hown:G.own w.heap.size=none:=by
  cases ho:G.own w.heap.size with
  | none=>rfl
  | some i=>have:=(hw.own _ _ ho).1;omega
 have hle:G.le (rowNew G h.length w.heap.size):=by
  refine ⟨fun _ _ x=>x,fun i b x=>?_,fun _ _ _ x=>x,fun b i x=>?_⟩
  ·show (if i=h.length then some w.heap.size else G.loc i)=some b
   split
   ·rename_i e;subst e;rw [hf.1] at x;cases x
   ·exact x
  ·show (if b=w.heap.size then some h.length else G.own b)=some i
   split
   ·rename_i e;subst e;rw [hown] at x;cases x
   ·exact x
 have hK:¬ E.K w.heap.size:=fun hk=>by have:=hw.size;have:=hk.1;omega
 refine ⟨hle,hw.le.trans hle,fun a v ha=>?_,hw.immNew,fun b hb=>?_,by rw [hh];simp;have:=hw.size;omega,ho.trans hw.os,ht.trans hw.tape,hout.trans hw.output,fun b i hb=>?_,fun i hi=>?_,fun i ob hi=>?_⟩
 ·have hc:=hw.imm a v ha
  rw [World.cell?_of_block (w:=w) (by rw [hh];exact qAv _ _ _ (World.block_lt_of_cell? _ _ hc))]
  exact hc
 ·rw [hh,qAv _ _ _ (Nat.lt_of_lt_of_le hb.1 hw.size)];exact hw.keep b hb
 ·have hb':(if b=w.heap.size then some h.length else G.own b)=some i:=hb
  split at hb'
  ·rename_i e;subst e;exact ⟨by rw [hh];simp,hK⟩
  ·have:=hw.own b i hb';exact ⟨by rw [hh];simp;omega,this.2⟩
 ·simp only [List.length_append,List.length_cons,List.length_nil] at hi
  have:=hw.fresh i (by omega)
  refine ⟨?_,this.2⟩
  show (if i=h.length then some w.heap.size else G.loc i)=none
  rw [if_neg (by omega)];exact this.1
 ·by_cases hlt:i < h.length
  ·rw [List.getElem?_append_left hlt] at hi
   refine (hw.obj i ob hi).keep hle (fun b hb=>?_) (fun n hn=>hn) (fun hn=>by show (if i=h.length then _ else G.loc i)=none;rw [if_neg (by omega)];exact hn)
   exact ⟨by rw [hh];exact qAv _ _ _ (hw.own b i hb).1,fun a ha=>rfl⟩
  ·rw [List.getElem?_append_right (by omega)] at hi
   have hi0:i-h.length=0:=by
    have:=(List.getElem?_eq_some_iff.1 hi).1
    simp at this;omega
   rw [hi0] at hi
   simp at hi
   subst hi
   have hie:i=h.length:=by omega
   subst hie
   refine ⟨w.heap.size,?_,?_,fun j c hj=>?_,fun a ha=>?_,fun n=>hf.2 n⟩
   ·show (if h.length=h.length then _ else _)=_;simp
   ·show (if w.heap.size=w.heap.size then _ else _)=_;simp
   ·have hjl:j < cs.size:=by rw [hs];exact (List.getElem?_eq_some_iff.1 hj).1
    obtain ⟨u,hu⟩:∃ u,cs[j]?=some u:=⟨cs[j],by simp [hjl]⟩
    obtain ⟨r1,r2⟩:=hc j c u hj hu
    exact ⟨u,by simp [World.cell?,hh,hu],r2,r1.mono hle,by simp [World.frozen?,hh]⟩
   ·cases hg:G.imm a with
    | none=>exact hg
    | some v=>have:=World.block_lt_of_cell? _ _ (hw.imm a v hg);omega
theorem alloc_ok {T:Tr} (hT:TOk P T) {t:Nat} {i:TI} (ho:o.op=.alloc t) (hf:T.find t=some i):OpS P E o ρ h (.ptr h.length 0) (h++[.row i.zero]) :=
 qBi fun G e w hw hr=>by
  have hti:=hT.at hf
  obtain ⟨z,hz,hzc⟩:=hti.run_zero (w:=w)
  obtain ⟨hl,hc⟩:=zrepL_ok hzc
  have hn:=hw.newRow z.cells t i.zero (by simp [hl]) (fun j c u h1 h2=>hc G j c u h1 (by simpa using h2)) { w with heap:=w.heap.push (.cells z.cells t) } rfl rfl rfl rfl
  refine ⟨.pointer (some ⟨w.heap.size,0,none⟩),_,_,?_,hn.1,hn.2,.ptr 0 ?_⟩
  ·unfold execOp
   simp [ho,Instr.alloc,hz,newVar,newRow]
  ·show (if h.length=h.length then _ else _)=_;simp
theorem box_ok {t:Nat} {x:Operand} {cs:List AV} (ho:o.op=.box t x) (hx:cellsA (ρ x)=some cs):OpS P E o ρ h (.ptr h.length 0) (h++[.row cs]) :=
 qBi fun G e w hw hr=>by
  have hx':RepA G (ρ x) (e x):=hr x (by simp [ho,Op.operands])
  obtain ⟨hl,hc⟩:=cellsA_ok hx' hx
  have hn:=hw.newRow (e x).cells t cs hl (fun j c u h1 h2=>hc j c u h1 h2) { w with heap:=w.heap.push (.cells (e x).cells t) } rfl rfl rfl rfl
  refine ⟨.pointer (some ⟨w.heap.size,0,none⟩),_,_,?_,hn.1,hn.2,.ptr 0 ?_⟩
  ·unfold execOp
   simp [ho,Instr.box,newVar,newRow]
  ·show (if h.length=h.length then _ else _)=_;simp
def loadA (T:Tr) (t:Nat) (cells:List AV) (off:Nat):Option AV:=match T.find t with
 | some i=>match i.agg with
  | true=>match Nat.ble (off+i.size) cells.length with
   | true=>some (.agg ((cells.drop off).take i.size))
   | false=>none
  | false=>cells[off]?
 | none=>none
theorem qDj {T:Tr} (hT:TOk P T) {t i off:Nat} {x:Operand} {cells:List AV} (ho:o.op=.load t x) (hx:ρ x=.ptr i off) (hi:h[i]?=some (.row cells)) (hv:loadA T t cells off=some v) :
  OpS P E o ρ h v h :=
 qBi fun G e w hw hr=>by
  have hx':RepA G (ρ x) (e x):=hr x (by simp [ho,Op.operands])
  rw [hx] at hx'
  obtain ⟨b,hb,hl⟩:=hx'.ptr_inv
  obtain ⟨b',hl',hown,hrow,himm⟩:=hw.obj i _ hi
  rw [hl] at hl';cases hl'
  unfold loadA at hv
  split at hv
  ·rename_i ti hf
   have hti:=hT.at hf
   split at hv
   ·rename_i hagg
    split at hv
    ·rename_i hble
     have hle:=Nat.le_of_ble_eq_true hble
     cases hv
     have hcell:∀ j,j < ti.size→∃ u,w.cell? ⟨b,off+j,none⟩=some u∧oneC u=true∧RepA G (cells[off+j]?.getD .any) u:=by
      intro j hj
      have hc:cells[off+j]?=some cells[off+j]:=by simp [show off+j < cells.length by omega]
      obtain ⟨u,h1,h2,h3,_⟩:=hrow _ _ hc
      exact ⟨u,h1,h2,by rw [hc];exact h3⟩
     let f:Nat→Value:=fun j=>(w.cell? ⟨b,off+j,none⟩).getD undef
     have hld:(loadCells ⟨b,off,none⟩ ti.size).run P w=.ok ((List.range ti.size).map f).toArray w:=by
      refine run_loadCells (P:=P) w _ _ f (fun j hj=>?_)
      obtain ⟨u,h1,_⟩:=hcell j hj
      rw [qDb];simp [f,h1]
     refine ⟨.agg ((List.range ti.size).map f).toArray,w,G,?_,.refl G,hw,.agg _ (by simp;omega) (fun j c y hc hy=>?_) (fun j y hy=>?_)⟩
     ·unfold execOp
      simp [ho,Instr.loadAt,hb,Instr.sureAddr,loadVar,hti.run_agg,hagg,hti.run_size,hld]
     ·simp only [List.getElem?_take,List.getElem?_drop] at hc
      split at hc
      ·rename_i hj
       obtain ⟨u,h1,h2,h3⟩:=hcell j hj
       simp [hj,f,h1] at hy
       subst hy
       rw [hc] at h3;exact h3
      ·cases hc
     ·by_cases hj:j < ti.size
      ·obtain ⟨u,h1,h2,h3⟩:=hcell j hj
       simp [hj,f,h1] at hy
       subst hy;exact h2
      ·simp [hj] at hy
    ·cases hv
   ·rename_i hagg
    obtain ⟨u,h1,h2,h3,_⟩:=hrow _ _ hv
    refine ⟨u,w,G,?_,.refl G,hw,h3⟩
    unfold execOp
    simp [ho,Instr.loadAt,hb,Instr.sureAddr,loadVar,hti.run_agg,hagg,h1]
  ·cases hv
def setRun:List AV→Nat→List AV→List AV
 | cs,_,[]=>cs
 | cs,off,c::r=>setRun (cs.set off c) (off+1) r
theorem setRun_length:∀ (new cs:List AV) (off:Nat),(setRun cs off new).length=cs.length
 | [],_,_=>rfl
 | c::r,cs,off=>by simp [setRun,setRun_length r]
theorem oneC_oneCell' {v:Value} (h:oneC v=true):v.oneCell'=true:=by cases v <;> simp_all [oneC,Value.oneCell']
theorem store_cells {G:Gh} {b:Nat}:∀ (vs:List Value) (new cells:List AV) (off i0:Nat) (w:World),RowAt G w b cells→off+i0+vs.length≤cells.length→vs.length=new.length →
  (∀ (j:Nat) (c:AV) (u:Value),new[j]?=some c→vs[j]?=some u→RepA G c u∧oneC u=true) →
  ∃ w',(storeCells ⟨b,off,none⟩ vs i0).run P w=.ok () w'∧RowAt G w' b (setRun cells (off+i0) new)∧(∀ k,k≠b→w'.heap[k]?=w.heap[k]?)∧w'.heap.size=w.heap.size ∧
   w'.os=w.os∧w'.tape=w.tape∧w'.output=w.output
 | [],new,cells,off,i0,w,hr,hle,hlen,hv=>by
  cases new with
  | nil=>exact ⟨w,by simp [storeCells],hr,fun _ _=>rfl,rfl,rfl,rfl,rfl⟩
  | cons _ _=>simp at hlen
 | u::vs,new,cells,off,i0,w,hr,hle,hlen,hv=>by
  cases new with
  | nil=>simp at hlen
  | cons c new =>
   simp only [List.length_cons] at hle hlen
   obtain ⟨hc,hu⟩:=hv 0 c u (by simp) (by simp)
   have hget:cells[off+i0]?=some cells[off+i0]:=by simp [show off+i0 < cells.length by omega]
   obtain ⟨u0,h1,h2,h3,h4⟩:=hr _ _ hget
   have hrow':RowAt G (w.setCell ⟨b,off+i0,none⟩ u) b (cells.set (off+i0) c):=by
    intro j d hj
    rw [List.getElem?_set] at hj
    split at hj
    ·rename_i e;subst e
     split at hj
     ·cases hj
      exact ⟨u,World.cell?_setCell_same _ _ _ h1,hu,hc,by rw [World.frozen?_setCell];exact h4⟩
     ·cases hj
    ·rename_i e
     obtain ⟨y,k1,k2,k3,k4⟩:=hr j d hj
     exact ⟨y,by rw [World.cell?_setCell_other _ _ _ _ (by intro hh;apply e;injection hh)];exact k1,k2,k3,by rw [World.frozen?_setCell];exact k4⟩
   obtain ⟨w',q1,q2,q3,q4,q5,q6,q7⟩:=store_cells vs new (cells.set (off+i0) c) off (i0+1) _ hrow' (by simp;omega) (by omega) (fun j d y hd hy=>hv (j+1) d y (by simpa using hd) (by simpa using hy))
   refine ⟨w',?_,?_,fun k hk=>?_,?_,q5,q6,q7⟩
   ·simp only [storeCells,Sem.run_bind]
    rw [qDb,run_store P w _ u .plain (oneC_oneCell' hu),h1]
    simp only [h4,Bool.false_eq_true,if_false,Result.andThen_ok]
    exact q1
   ·simpa [setRun,Nat.add_assoc] using q2
   ·rw [q3 k hk]
    simp only [World.setCell,Array.getElem?_modify]
    rw [if_neg (by simpa using fun hh=>hk hh.symm)]
   ·rw [q4];simp
theorem WRel.setObj {G:Gh} {w w':World} {i b:Nat} {cells cells':List AV} (hw:WRel E G h w) (hi:h[i]?=some (.row cells)) (hl:G.loc i=some b) (hr:RowAt G w' b cells') (hk:∀ k,k≠b→w'.heap[k]?=w.heap[k]?)
  (hs:w'.heap.size=w.heap.size) (ho:w'.os=w.os) (ht:w'.tape=w.tape) (hout:w'.output=w.output):WRel E G (h.set i (.row cells')) w':=by
 obtain ⟨b',hl',hown,hrow,himm⟩:=hw.obj i _ hi
 rw [hl] at hl';cases hl'
 have hKb:=(hw.own b i hown).2
 refine ⟨hw.le,fun a v ha=>?_,hw.immNew,fun c hc=>?_,by rw [hs];exact hw.size,ho.trans hw.os,ht.trans hw.tape,hout.trans hw.output,fun c j hc=>by rw [hs];exact hw.own c j hc,fun j hj=>hw.fresh j (by simpa using hj),fun j ob hj=>?_⟩
 ·have:a.block≠b:=fun e=>by rw [himm.1 a e] at ha;cases ha
  rw [World.cell?_of_block (w:=w) (hk _ this)]
  exact hw.imm a v ha
 ·have:c≠b:=fun e=>hKb (e▸hc)
  rw [hk _ this];exact hw.keep c hc
 ·rw [List.getElem?_set] at hj
  split at hj
  ·rename_i e;subst e
   split at hj
   ·cases hj;exact ⟨b,hl,hown,hr,himm⟩
   ·cases hj
  ·rename_i e
   refine (hw.obj j ob hj).keep (.refl G) (fun c hc=>⟨hk _ ?_,fun _ _=>rfl⟩) (fun _ hn=>hn) (fun hn=>hn)
   intro hcb;subst hcb
   rw [hown] at hc;cases hc;exact e rfl
def storeA (T:Tr) (t:Nat) (cells:List AV) (off:Nat) (x:AV):Option (List AV):=match T.find t with
 | some i=>match cellsA x with
  | some cs=>match Nat.beq cs.length i.size&&Nat.ble (off+i.size) cells.length with
   | true=>some (setRun cells off cs)
   | false=>none
  | none=>none
 | none=>none
theorem store_ok {T:Tr} (hT:TOk P T) {t i off:Nat} {x y:Operand} {cells cells':List AV} (ho:o.op=.store t x y) (hx:ρ x=.ptr i off) (hi:h[i]?=some (.row cells)) (hv:storeA T t cells off (ρ y)=some cells') :
  OpS P E o ρ h .any (h.set i (.row cells')) :=
 OpS_of_skip fun G e w hw hr=>by
  have hx':RepA G (ρ x) (e x):=hr x (by simp [ho,Op.operands])
  have hy':RepA G (ρ y) (e y):=hr y (by simp [ho,Op.operands])
  rw [hx] at hx'
  obtain ⟨b,hb,hl⟩:=hx'.ptr_inv
  obtain ⟨b',hl',hown,hrow,himm⟩:=hw.obj i _ hi
  rw [hl] at hl';cases hl'
  unfold storeA at hv
  split at hv
  ·rename_i ti hf
   have hti:=hT.at hf
   split at hv
   ·rename_i cs hcs
    split at hv
    ·rename_i hbb
     simp only [Bool.and_eq_true] at hbb
     have hlen:=Nat.eq_of_beq_eq_true hbb.1
     have hle:=Nat.le_of_ble_eq_true hbb.2
     cases hv
     obtain ⟨c1,c2⟩:=cellsA_ok hy' hcs
     obtain ⟨w',q1,q2,q3,q4,q5,q6,q7⟩:=store_cells (P:=P) (e y).cells.toList cs cells off 0 w hrow (by simp;omega) (by simp [c1]) (fun j d u hd hu=>c2 j d u hd (by simpa using hu))
     refine ⟨w',G,?_,.refl G,hw.setObj hi hl (by simpa using q2) q3 q4 q5 q6 q7⟩
     unfold execOp
     have hsz:(e y).cells.size=ti.size:=by rw [c1,hlen]
     simp [ho,Instr.storeAt,hb,Instr.sureAddr,storeVar,hti.run_size,hsz,q1]
    ·cases hv
   ·cases hv
  ·cases hv
end
end Tdoc
namespace Tdoc
open Go
def CellsRep (G:Gh) (cells:List AV) (vs:Array Value):Prop :=
 vs.size=cells.length∧∀ (j:Nat) (c:AV) (u:Value),cells[j]?=some c→vs[j]?=some u→RepA G c u∧oneC u=true
theorem fold_set {G:Gh} (off:Nat):∀ (new:List AV) (us:List Value) (k:Nat) (cells:List AV) (vs:Array Value),CellsRep G cells vs→us.length=new.length →
  (∀ (j:Nat) (c:AV) (u:Value),new[j]?=some c→us[j]?=some u→RepA G c u∧oneC u=true) →
  CellsRep G (setRun cells (off+k) new) ((us.zipIdx k).foldl (fun cs x=>cs.setIfInBounds (off+x.2) x.1) vs)
 | [],us,k,cells,vs,hr,hl,hv=>by
  have:us=[]:=by simpa using hl
  subst this;simpa [setRun] using hr
 | c::new,[],k,cells,vs,hr,hl,hv=>by simp at hl
 | c::new,u::us,k,cells,vs,hr,hl,hv=>by
  simp only [List.zipIdx_cons,List.foldl_cons,setRun]
  have h0:=hv 0 c u (by simp) (by simp)
  have:=fold_set off new us (k+1) (cells.set (off+k) c) (vs.setIfInBounds (off+k) u) ⟨by simp [hr.1],fun j d y hd hy=>by
   rw [List.getElem?_set] at hd
   rw [Array.getElem?_setIfInBounds] at hy
   split at hd
   ·rename_i e;subst e
    split at hd
    ·cases hd
     simp only [if_true] at hy
     split at hy
     ·cases hy;exact h0
     ·cases hy
    ·cases hd
   ·rename_i e
    rw [if_neg e] at hy
    exact hr.2 j d y hd hy⟩ (by simpa using hl) (fun j d y hd hy=>hv (j+1) d y (by simpa using hd) (by simpa using hy))
  simpa [Nat.add_assoc] using this
def fillA (place:Nat→Option (Nat×Nat)) (cells:List AV):List (Nat×AV)→Option (List AV)
 | []=>some cells
 | (i,v)::rest=>match place i with
  | none=>none
  | some (off,size)=>match cellsA v with
   | none=>none
   | some cs=>match Nat.beq cs.length size&&Nat.ble (off+size) cells.length with
    | true=>fillA place (setRun cells off cs) rest
    | false=>none
theorem fillA_ok {G:Gh} {place:Nat→Option (Nat×Nat)} {ρ:Operand→AV} {e:Operand→Value}:∀ (parts:List (Nat×Operand)) (cells cells':List AV) (vs:Array Value),CellsRep G cells vs →
  (∀ x,x∈parts→RepA G (ρ x.2) (e x.2))→fillA place cells (parts.map fun x=>(x.1,ρ x.2))=some cells' →
  ∃ vs',Instr.fill place vs (parts.map fun x=>(x.1,e x.2))=some vs'∧CellsRep G cells' vs'
 | [],cells,cells',vs,hr,hp,h=>by simp [fillA] at h;subst h;exact ⟨vs,by simp [Instr.fill],hr⟩
 | (i,x)::parts,cells,cells',vs,hr,hp,h=>by
  simp only [List.map_cons,fillA] at h
  split at h
  ·cases h
  ·rename_i off size hpl
   split at h
   ·cases h
   ·rename_i cs hcs
    split at h
    ·rename_i hb
     simp only [Bool.and_eq_true] at hb
     have hlen:=Nat.eq_of_beq_eq_true hb.1
     have hle:=Nat.le_of_ble_eq_true hb.2
     obtain ⟨c1,c2⟩:=cellsA_ok (hp (i,x) (by simp)) hcs
     have hnew:=fold_set (G:=G) off cs (e x).cells.toList 0 cells vs hr (by simp [c1]) (fun j d u hd hu=>c2 j d u hd (by simpa using hu))
     obtain ⟨vs',h1,h2⟩:=fillA_ok parts _ _ _ hnew (fun y hy=>hp y (by simp [hy])) h
     refine ⟨vs',?_,h2⟩
     simp only [List.map_cons,Instr.fill,hpl]
     have hn:¬ ((e x).cells.size≠size∨off+(e x).cells.size > vs.size):=by
      rw [c1,hlen,hr.1];omega
     have hb2:((decide ((e x).cells.size≠size)||decide (off+(e x).cells.size > vs.size))=true)↔((e x).cells.size≠size∨off+(e x).cells.size > vs.size):=by simp
     rw [if_neg (by rw [hb2];exact hn)]
     rw [← Array.foldl_toList,Array.toList_zipIdx]
     simpa using h1
    ·cases h
def buildA (T:Tr) (t:Nat) (parts:List (Nat×AV)):Option AV:=match T.find t with
 | some i=>match i.kind with
  | .struct fs=>match fillA (fun k=>(fs[k]?).map fun (x:Nat×Nat×Bool)=>(x.1,x.2.1)) i.zero parts with
   | some cs=>some (.agg cs)
   | none=>none
  | .array _ el=>match T.find el with
   | some ie=>match fillA (fun k=>some (k*ie.size,ie.size)) i.zero parts with
    | some cs=>some (.agg cs)
    | none=>none
   | none=>none
  | _=>none
 | none=>none
section
variable {P:Program} {E:Env} {T:Tr} {o:Oper} {ρ:Operand→AV} {h h':List AObj} {v:AV}
theorem places_ok:∀ {fields:List Field} {fs:List (Nat×Nat×Bool)},fieldsOf P fields fs=true →
  fields.mapM (fun f=>(P.info? f.type).map fun i=>(f.offset,i.size))=some (fs.map fun (x:Nat×Nat×Bool)=>(x.1,x.2.1))
 | [],[],_=>by simp
 | f::r,(off,s,g)::l,h=>by
  simp only [fieldsOf,Bool.and_eq_true] at h
  obtain ⟨⟨⟨h1,h2⟩,h3⟩,h4⟩:=h
  have ih:=places_ok h4
  have h1:=Nat.eq_of_beq_eq_true h1
  cases hi:P.info? f.type with
  | none=>simp [hi] at h2
  | some i =>
   simp only [hi] at h2
   have h2:=Nat.eq_of_beq_eq_true h2
   simp [List.mapM_cons,hi,ih,h1,h2]
 | [],_::_,h=>by simp [fieldsOf] at h
 | _::_,[],h=>by simp [fieldsOf] at h
theorem build_ok (hT:TOk P T) {t:Nat} {parts:Array (Nat×Operand)} (ho:o.op=.build t parts) (h:buildA T t (parts.toList.map fun x=>(x.1,ρ x.2))=some v):OpP P o ρ v:=by
 intro G e w hi hr
 have hp:∀ x,x∈parts.toList→RepA G (ρ x.2) (e x.2):=fun x hx=>hr x.2 (by
  simp only [ho,Op.operands]
  exact List.mem_map_of_mem hx)
 unfold buildA at h
 split at h
 ·rename_i i hf
  have hti:=hT.at hf
  obtain ⟨info,hinfo,hsz,hby,z,hz,hzc⟩:=hti.info
  obtain ⟨d,hd,hkd⟩:=hti.und
  obtain ⟨zl,zr⟩:=zrepL_ok hzc
  have hrep:CellsRep G i.zero z.cells:=⟨by simp [zl],fun j c u hc hu=>zr G j c u hc (by simpa using hu)⟩
  split at h
  ·rename_i fs hk
   rw [hk] at hkd
   cases d <;> simp [kindOk] at hkd
   rename_i fields
   split at h
   ·rename_i cs hfill
    cases h
    obtain ⟨vs',h1,h2⟩:=fillA_ok (e:=e) parts.toList _ _ _ hrep hp hfill
    refine ⟨.agg vs',?_,.agg vs' h2.1 (fun j x u hx hu=>(h2.2 j x u hx hu).1) (fun j u hu=>?_)⟩
    ·unfold execOp
     simp only [ho,Sem.run_bind]
     rw [run_build w t (parts.map fun x=>(x.1,e x.2)) vs' ?_]
     ·rfl
     ·simp only [Program.built,hinfo,hd,hz,places_ok hkd]
      have:(fun k:Nat=>(List.map (fun x:Nat×Nat×Bool=>(x.1,x.2.1)) fs).toArray[k]?)=fun k=>(fs[k]?).map fun (x:Nat×Nat×Bool)=>(x.1,x.2.1):=by funext k;simp
      simp only [this,Array.toList_map]
      exact h1
    ·have hj:j < cs.length:=by rw [← h2.1];exact (Array.getElem?_eq_some_iff.1 hu).1
     exact (h2.2 j cs[j] u (by simp [hj]) hu).2
   ·cases h
  ·rename_i n el hk
   rw [hk] at hkd
   cases d <;> simp [kindOk] at hkd
   obtain ⟨rfl,rfl⟩:=hkd
   split at h
   ·rename_i ie hfe
    obtain ⟨einfo,heinfo,hesz,_⟩:=(hT.at hfe).info
    split at h
    ·rename_i cs hfill
     cases h
     obtain ⟨vs',h1,h2⟩:=fillA_ok (e:=e) parts.toList _ _ _ hrep hp hfill
     refine ⟨.agg vs',?_,.agg vs' h2.1 (fun j x u hx hu=>(h2.2 j x u hx hu).1) (fun j u hu=>?_)⟩
     ·unfold execOp
      simp only [ho,Sem.run_bind]
      rw [run_build w t (parts.map fun x=>(x.1,e x.2)) vs' ?_]
      ·rfl
      ·simp only [Program.built,hinfo,hd,hz,heinfo,hesz,Array.toList_map]
       exact h1
     ·have hj:j < cs.length:=by rw [← h2.1];exact (Array.getElem?_eq_some_iff.1 hu).1
      exact (h2.2 j cs[j] u (by simp [hj]) hu).2
    ·cases h
   ·cases h
  ·cases h
 ·cases h
def mapDat:List AV→Option (List Dat)
 | []=>some []
 | x::l=>match toDat x with
  | some d=>match mapDat l with
   | some r=>some (d::r)
   | none=>none
  | none=>none
theorem mapDat_at:∀ {cs:List AV} {ds:List Dat},mapDat cs=some ds→ds.length=cs.length∧∀ (j:Nat) (d:Dat),ds[j]?=some d→∃ c,cs[j]?=some c∧toDat c=some d
 | [],ds,h=>by simp [mapDat] at h;subst h;exact ⟨rfl,fun j d h=>by simp at h⟩
 | x::l,ds,h=>by
  unfold mapDat at h
  split at h
  ·rename_i d hd
   split at h
   ·rename_i r hr
    cases h
    obtain ⟨h1,h2⟩:=mapDat_at hr
    refine ⟨by simp [h1],fun j y hy=>?_⟩
    cases j with
    | zero=>simp at hy;subst hy;exact ⟨x,by simp,hd⟩
    | succ j=>simp at hy;obtain ⟨c,hc,hc2⟩:=h2 j y hy;exact ⟨c,by simpa using hc,hc2⟩
   ·cases h
  ·cases h
def denseA (sz:Nat):Nat→List (Nat×AV)→Option (List (List Dat))
 | _,[]=>some []
 | k,(i,x)::r=>match Nat.beq i k with
  | true=>match cellsA x with
   | some cs=>match Nat.beq cs.length sz with
    | true=>match mapDat cs with
     | some ds=>match denseA sz (k+1) r with
      | some l=>some (ds::l)
      | none=>none
     | none=>none
    | false=>none
   | none=>none
  | false=>none
theorem denseA_len {sz:Nat}:∀ {parts:List (Nat×AV)} {k:Nat} {es:List (List Dat)},denseA sz k parts=some es→es.length=parts.length∧∀ e,e∈es→e.length=sz
 | [],k,es,h=>by simp [denseA] at h;subst h;exact ⟨rfl,fun e he=>by cases he⟩
 | (i,x)::r,k,es,h=>by
  unfold denseA at h
  split at h
  ·split at h
   ·rename_i cs hcs
    split at h
    ·rename_i hb
     split at h
     ·rename_i ds hds
      split at h
      ·rename_i l hl
       cases h
       obtain ⟨h1,h2⟩:=denseA_len hl
       refine ⟨by simp [h1],fun e he=>?_⟩
       cases he with
       | head=>rw [(mapDat_at hds).1];exact Nat.eq_of_beq_eq_true hb
       | tail _ he=>exact h2 e he
      ·cases h
     ·cases h
    ·cases h
   ·cases h
  ·cases h
theorem setRun_at:∀ (new cs:List AV) (off j:Nat),off+new.length≤cs.length→(setRun cs off new)[j]?=if off≤j∧j < off+new.length then new[j-off]? else cs[j]?
 | [],cs,off,j,_=>by simp [setRun];intro h1 h2;omega
 | c::r,cs,off,j,h=>by
  simp only [List.length_cons] at h
  rw [setRun,setRun_at r _ _ j (by simp;omega)]
  simp only [List.length_cons,List.getElem?_set]
  by_cases h1:off+1≤j∧j < off+1+r.length
  ·rw [if_pos h1,if_pos (by omega)]
   rw [show j-off=(j-(off+1))+1 by omega];simp
  ·rw [if_neg h1]
   by_cases h2:off=j
   ·subst h2
    rw [if_pos rfl,if_pos (by omega),if_pos (by omega)];simp
   ·rw [if_neg h2,if_neg (by omega)]
theorem fill_dense {sz:Nat}:∀ (parts:List (Nat×AV)) (k:Nat) (cells:List AV) (es:List (List Dat)),denseA sz k parts=some es→(k+parts.length)*sz≤cells.length →
  ∃ cells',fillA (fun i=>some (i*sz,sz)) cells parts=some cells'∧(∀ j,j < k*sz→cells'[j]?=cells[j]?) ∧
   ∀ (i:Nat) (e:List Dat) (j:Nat) (d:Dat),es[i]?=some e→e[j]?=some d→∃ c,cells'[(k+i)*sz+j]?=some c∧toDat c=some d
 | [],k,cells,es,h,hl=>by simp [denseA] at h;subst h;exact ⟨cells,rfl,fun _ _=>rfl,fun i e j d h=>by simp at h⟩
 | (i0,x)::r,k,cells,es,h,hl=>by
  simp only [List.length_cons] at hl
  unfold denseA at h
  split at h
  ·rename_i hik
   obtain rfl:=Nat.eq_of_beq_eq_true hik
   split at h
   ·rename_i cs hcs
    split at h
    ·rename_i hb
     have hcl:=Nat.eq_of_beq_eq_true hb
     split at h
     ·rename_i ds hds
      split at h
      ·rename_i l hl2
       cases h
       have e1:(i0+1)*sz=i0*sz+sz:=by rw [Nat.add_mul,Nat.one_mul]
       have e2:(i0+(r.length+1))*sz=(i0+1+r.length)*sz:=by congr 1;omega
       have e3:(i0+1)*sz≤(i0+1+r.length)*sz:=Nat.mul_le_mul_right _ (by omega)
       have hfit:i0*sz+cs.length≤cells.length:=by omega
       obtain ⟨cells',h1,h2,h3⟩:=fill_dense r (i0+1) (setRun cells (i0*sz) cs) l hl2 (by rw [setRun_length];omega)
       refine ⟨cells',?_,fun j hj=>?_,fun i e j d he hd=>?_⟩
       ·simp only [fillA,hcs]
        have:(Nat.beq cs.length sz&&Nat.ble (i0*sz+sz) cells.length)=true:=by
         simp only [Bool.and_eq_true];exact ⟨hb,by rw [Nat.ble_eq];omega⟩
        rw [this];exact h1
       ·rw [h2 j (by omega),setRun_at _ _ _ _ hfit,if_neg (by omega)]
       ·cases i with
        | zero =>
         simp only [List.getElem?_cons_zero,Option.some.injEq] at he
         subst he
         obtain ⟨m1,m2⟩:=mapDat_at hds
         have hj:j < sz:=by have:=(List.getElem?_eq_some_iff.1 hd).1;omega
         obtain ⟨c,hc,hcd⟩:=m2 j d hd
         refine ⟨c,?_,hcd⟩
         rw [Nat.add_zero,h2 _ (by omega),setRun_at _ _ _ _ hfit,if_pos (by omega)]
         rw [show i0*sz+j-i0*sz=j by omega];exact hc
        | succ i =>
         simp only [List.getElem?_cons_succ] at he
         obtain ⟨c,hc,hcd⟩:=h3 i e j d he hd
         exact ⟨c,by rw [show i0+(i+1)=i0+1+i by omega];exact hc,hcd⟩
      ·cases h
     ·cases h
    ·cases h
   ·cases h
  ·cases h
def buildSlA (T:Tr) (t len:Nat) (parts:List (Nat×AV)):Option AV:=match T.find t with
 | some i=>match i.kind with
  | .slice el=>match T.find el with
   | some ie=>match denseA ie.size 0 parts with
    | some es=>match Nat.beq es.length len&&Nat.ble (len*ie.size) 16777216&&Nat.beq ie.zero.length ie.size with
     | true=>some (.sl ie.size es .full)
     | false=>none
    | none=>none
   | none=>none
  | _=>none
 | none=>none
theorem newImm_rep {G:Gh} {b n sz:Nat} {cs:Array Value} {es:List (List Dat)} (he:∀ e,e∈es→e.length=sz) (hn:es.length*sz≤n) (cap:Nat) (hcap:es.length≤cap)
  (hc:∀ (i:Nat) (e:List Dat) (j:Nat) (d:Dat),es[i]?=some e→e[j]?=some d→∃ u,cs[i*sz+j]?=some u∧RepD (immExt G b n cs).imm d u) :
  RepD (immExt G b n cs).imm (.sl sz es) (.slice (some ⟨b,0,none⟩) es.length cap):=by
 refine .sl sz es _ cap (fun k=>cs.getD k undef) rfl hcap he (fun i e j d h1 h2=>?_) (fun i e j d h1 h2=>?_)
 ·obtain ⟨u,hu,_⟩:=hc i e j d h1 h2
  have hj:j < sz:=by rw [← he e (List.mem_of_getElem? h1)];exact (List.getElem?_eq_some_iff.1 h2).1
  have hi:i < es.length:=(List.getElem?_eq_some_iff.1 h1).1
  have hlt:i*sz+j < n:=by
   have:(i+1)*sz≤es.length*sz:=Nat.mul_le_mul_right _ hi
   rw [Nat.add_mul,Nat.one_mul] at this;omega
  rw [qDb]
  show (if b=b then (if (none:Option Nat)=none∧0+(i*sz+j) < n then cs[0+(i*sz+j)]? else none) else _)=_
  simp [hlt,hu]
 ·obtain ⟨u,hu,hr⟩:=hc i e j d h1 h2
  simp only [Array.getD_eq_getD_getElem?,hu,Option.getD_some];exact hr
theorem buildSl_run (hT:TOk P T) {t len:Nat} {parts:Array (Nat×Operand)} (ho:o.op=.buildSlice t len parts) (hv:buildSlA T t len (parts.toList.map fun x=>(x.1,ρ x.2))=some v)
  (G:Gh) (e:Operand→Value) (w:World) (hw:WRel E G h w) (hr:∀ x,x∈o.op.operands.toList→RepA G (ρ x) (e x)) :
  ∃ el vs' G',P.underlying t=some (.slice el)∧G'.own=G.own∧(execOp e o).run P w=.ok (.value (.slice (some ⟨w.heap.size,0,none⟩) len len)) (w.alloc (.cells vs' el))∧G.le G'∧WRel E G' h (w.alloc (.cells vs' el))∧RepA G' v (.slice (some ⟨w.heap.size,0,none⟩) len len):=by
  have hp:∀ x,x∈parts.toList→RepA G (ρ x.2) (e x.2):=fun x hx=>hr x.2 (by
   simp only [ho,Op.operands]
   exact List.mem_map_of_mem hx)
  unfold buildSlA at hv
  split at hv
  ·rename_i i hf
   split at hv
   ·rename_i el hk
    obtain ⟨d,hd,hkd⟩:=(hT.at hf).und
    rw [hk] at hkd
    cases d <;> simp [kindOk] at hkd
    subst hkd
    split at hv
    ·rename_i ie hfe
     obtain ⟨einfo,heinfo,hesz,heb,z,hz,hzc⟩:=(hT.at hfe).info
     split at hv
     ·rename_i es hes
      split at hv
      ·rename_i hb
       simp only [Bool.and_eq_true] at hb
       have hlen:=Nat.eq_of_beq_eq_true hb.1.1
       have hsmall:=Nat.le_of_ble_eq_true hb.1.2
       have hzlen:=Nat.eq_of_beq_eq_true hb.2
       cases hv
       obtain ⟨zl,zr⟩:=zrepL_ok hzc
       simp only [Array.length_toList] at zl
       obtain ⟨d1,d2⟩:=denseA_len hes
       have hplen:parts.toList.length=len:=by rw [← hlen,d1];simp
       let base:List AV:=(List.range (len*ie.size)).map fun k=>(ie.zero[k % ie.size]?).getD .any
       let basev:Array Value:=(Array.range (len*ie.size)).map (z.cells[· % z.cells.size]!)
       obtain ⟨cells',f1,_,f3⟩:=fill_dense (sz:=ie.size) (parts.toList.map fun x=>(x.1,ρ x.2)) 0 base es hes (by simp [base];rw [← hplen];simp)
       have hzero:len*ie.size=0∨0 < ie.size:=by
        rcases Nat.eq_zero_or_pos ie.size with h0 | h0
        ·left;simp [h0]
        ·right;exact h0
       have hbase:CellsRep G base basev:=by
        refine ⟨by simp [base,basev],fun j c u hc hu=>?_⟩
        have hj:j < len*ie.size:=by have:=(List.getElem?_eq_some_iff.1 hc).1;simpa [base] using this
        have hpos:0 < ie.size:=by rcases hzero with h0 | h0;(· omega);exact h0
        have hm:j % ie.size < ie.size:=Nat.mod_lt _ hpos
        have hm2:j % ie.size < z.cells.size:=by omega
        simp [base,hj] at hc
        simp [basev,hj] at hu
        subst hc;subst hu
        rw [← zl,hzlen]
        have h1:ie.zero[j % ie.size]?=some ie.zero[j % ie.size]:=by simp [hzlen,hm]
        rw [h1]
        simp only [Option.getD_some]
        have h2:z.cells[j % ie.size]! = z.cells[j % ie.size]:=by simp [hm2]
        rw [h2]
        exact zr G _ _ _ h1 (by simp [hm2])
       obtain ⟨vs',v1,v2⟩:=fillA_ok (e:=e) parts.toList _ _ _ hbase hp f1
       have hle:=immExt_le hw (es.length*ie.size) vs'
       have hnew:=hw.newImm (es.length*ie.size) vs' el (w.alloc (.cells vs' el)) rfl rfl rfl rfl
       refine ⟨el,vs',immExt G w.heap.size (es.length*ie.size) vs',hd,rfl,?_,hle,hnew,.sl ?_ ?_⟩
       ·unfold execOp
        by_cases h0:len*ie.size=0
        ·have hr0:Array.range 0 = #[]:=rfl
         have hb0:basev = #[]:=by simp [basev,h0,hr0]
         rw [hb0] at v1
         simp [ho,Instr.buildSlice,run_underlying hd,Go.sizeOf,typeInfo,heinfo,hesz,h0,hr0,v1,newRow]
        ·simp only [ho,Sem.run_bind]
         rw [run_buildSlice w t el len _ vs' einfo z hd heinfo hz (by rw [hesz];omega) (by rw [hesz];exact h0) (by rw [hesz];simpa using v1)]
         rfl
       ·rw [← hlen]
        refine newImm_rep d2 (Nat.le_refl _) _ (Nat.le_refl _) (fun i e' j d h1 h2=>?_)
        obtain ⟨c,hc,hcd⟩:=f3 i e' j d h1 h2
        rw [Nat.zero_add] at hc
        have hlt:i*ie.size+j < vs'.size:=by rw [v2.1];exact (List.getElem?_eq_some_iff.1 hc).1
        have hu:vs'[i*ie.size+j]?=some vs'[i*ie.size+j]:=by simp [hlt]
        exact ⟨_,hu,(toDat_ok (v2.2 _ _ _ hc hu).1 hcd).mono hle.imm⟩
       ·exact ⟨some ⟨w.heap.size,0,none⟩,by rw [hlen]⟩
      ·cases hv
     ·cases hv
    ·cases hv
   ·cases hv
  ·cases hv
theorem qCz (hT:TOk P T) {t len:Nat} {parts:Array (Nat×Operand)} (ho:o.op=.buildSlice t len parts) (hv:buildSlA T t len (parts.toList.map fun x=>(x.1,ρ x.2))=some v):OpS P E o ρ h v h :=
 qBi fun G e w hw hr=>by
  obtain ⟨el,vs',G',_,_,h1,h2,h3,h4⟩:=buildSl_run hT ho hv G e w hw hr
  exact ⟨_,_,G',h1,h2,h3,h4⟩
end
end Tdoc
namespace Tdoc
open Go
section
variable {P:Program} {E:Env} {T:Tr} {o:Oper} {ρ:Operand→AV} {h h':List AObj} {v:AV}
def Src (P:Program) (w:World) (xv:Value) (m sz:Nat) (news:List Value):Prop :=
 ∀ w':World,w'.heap=w.heap→(Builtin.lenOf xv).run P w'=.ok m w'∧(Builtin.firstCells sz m xv).run P w'=.ok news.toArray w'
theorem cell?_heap {w w':World} (h:w'.heap=w.heap) (a:Addr):w'.cell? a=w.cell? a:=by simp [World.cell?,h]
theorem src_of_rep {G:Gh} {w:World} {sz:Nat} {es:List (List Dat)} {xv:Value} (hi:∀ a x,G.imm a=some x→w.cell? a=some x) (hr:RepD G.imm (.sl sz es) xv) :
  ∃ news,Src P w xv es.length sz news∧news.length=es.length*sz∧(∀ (k:Nat) (u:Value),news[k]?=some u→oneC u=true) ∧
   ∀ (i:Nat) (e:List Dat) (j:Nat) (d:Dat),es[i]?=some e→e[j]?=some d→∃ u,news[i*sz+j]?=some u∧RepD G.imm d u:=by
 cases hr with
 | nil=>exact ⟨[],fun w' hw'=>⟨rfl,by simp [Builtin.firstCells]⟩,by simp,fun k u h=>by simp at h,fun i e j d h=>by simp at h⟩
 | sl _ _ a cap vs h1 h2 h3 h4 h5 =>
  have at_:∀ k,k < es.length*sz→∃ i e j d,es[i]?=some e∧e[j]?=some d∧k=i*sz+j:=by
   intro k hk
   have hs:0 < sz:=by rcases Nat.eq_zero_or_pos sz with h0 | h0;(· subst h0;simp at hk);exact h0
   have hil:k / sz < es.length:=Nat.div_lt_of_lt_mul (by rw [Nat.mul_comm];exact hk)
   have he:es[k / sz]?=some es[k / sz]:=by simp [hil]
   have hel:=h3 _ (List.mem_of_getElem? he)
   have hjl:k % sz < es[k / sz].length:=by rw [hel];exact Nat.mod_lt _ hs
   refine ⟨k / sz,es[k / sz],k % sz,es[k / sz][k % sz],he,by simp [hjl],?_⟩
   rw [Nat.mul_comm];exact (Nat.div_add_mod k sz).symm
  have hlt:∀ (i:Nat) (e:List Dat) (j:Nat) (d:Dat),es[i]?=some e→e[j]?=some d→i*sz+j < es.length*sz:=by
   intro i e j d he hd
   have hj:j < sz:=by rw [← h3 e (List.mem_of_getElem? he)];exact (List.getElem?_eq_some_iff.1 hd).1
   have hil:i < es.length:=(List.getElem?_eq_some_iff.1 he).1
   have:(i+1)*sz≤es.length*sz:=Nat.mul_le_mul_right _ hil
   rw [Nat.add_mul,Nat.one_mul] at this;omega
  refine ⟨(List.range (es.length*sz)).map vs,fun w' hw'=>⟨rfl,?_⟩,by simp,fun k u hk=>?_,fun i e j d he hd=>?_⟩
  ·simp only [Builtin.firstCells]
   exact run_loadCells (P:=P) w' a _ vs (fun k hk=>by
    obtain ⟨i,e,j,d,he,hd,rfl⟩:=at_ k hk
    rw [cell?_heap hw'];exact hi _ _ (h4 i e j d he hd))
  ·by_cases hkl:k < es.length*sz
   ·simp [hkl] at hk
    subst hk
    obtain ⟨i,e,j,d,he,hd,rfl⟩:=at_ k hkl
    exact (h5 i e j d he hd).one
   ·simp [hkl] at hk
  ·have hk:=hlt i e j d he hd
   exact ⟨vs (i*sz+j),by simp [hk],h5 i e j d he hd⟩
theorem src_nils {w:World} {sz:Nat}:Src P w (.slice none 0 0) 0 sz []:=fun w' _=>⟨rfl,by simp [Builtin.firstCells]⟩
def isIntD:TypeDesc→Bool
 | .int _=>true
 | _=>false
theorem qCy {t t2 ty e:TypeId} {ie:TI} {d2:TypeDesc} (ht:P.underlying t=some (.slice e)) (h2:P.underlying t2=some d2) (hd2:isIntD d2=false)
  (hie:TypeAt P e ie) {w w':World} {xv:Value} {a:Option Addr} {n cap m:Nat} {news:List Value} (hsrc:Src P w xv m ie.size news) (hfit:n+m≤cap)
  (hst:match (generalizing:=false) a with | some p=>(storeCells (p.add (n*ie.size)) news).run P w=.ok () w' | none=>w'=w) :
  (Builtin.append_ #[t,t2] ty #[.slice a n cap,xv]).run P w=.ok (.slice a (n+m) cap) w':=by
 have hl:=(hsrc w rfl).1
 have hc:=(hsrc w rfl).2
 unfold Builtin.append_
 simp only [List.getElem?_toArray,List.getElem?_cons_zero,List.getElem?_cons_succ,Sem.run_bind,run_underlying ht,Result.andThen_ok,hie.run_size,run_underlying h2]
 cases d2 <;> simp [isIntD] at hd2 <;> simp only [Sem.run_bind,Sem.run_pure,Result.andThen_ok,Bool.false_eq_true,if_false,hl,hfit,if_true,Bool.not_false,hc]
 all_goals
  cases a with
  | none=>simp at hst;subst hst;simp
  | some p=>simp at hst;simp [hst]
theorem qDd {t t2 ty e:TypeId} {ie:TI} {d2:TypeDesc} (ht:P.underlying t=some (.slice e)) (h2:P.underlying t2=some d2) (hd2:isIntD d2=false)
  (hie:TypeAt P e ie) {w:World} {sv xv:Value} {a:Option Addr} {n cap m:Nat} {olds news:List Value} (hsv:sv=.slice a n cap) (hold:Src P w sv n ie.size olds) (hsrc:Src P w xv m ie.size news) (hfit:cap < n+m)
  (hb:(n+m)*(ie.bytes+1)≤140737488355328) :
  ∃ newCap rest w',n+m≤newCap∧(Builtin.append_ #[t,t2] ty #[sv,xv]).run P w=.ok (.slice (some ⟨w.heap.size,0,none⟩) (n+m) newCap) w'∧w'.heap=w.heap.push (.cells (olds.toArray++news.toArray++rest) e) ∧
   rest.size=(newCap-(n+m))*ie.zero.length∧w'.os=w.os∧w'.tape=w.tape∧w'.output=w.output:=by
 subst hsv
 have hl:=(hsrc w rfl).1
 have hc:=(hsrc w.drew rfl).2
 have ho:=(hold w.drew rfl).2
 obtain ⟨info,hinfo,hisz,hib,z,hz,hzc⟩:=hie.info
 have hzl:z.cells.size=ie.zero.length:=by have:=(zrepL_ok hzc).1;simpa using this.symm
 have hb1:(n+m)*ie.bytes≤140737488355328:=Nat.le_trans (Nat.mul_le_mul_left _ (by omega)) hb
 have hb2:n+m≤140737488355328:=Nat.le_trans (by rw [Nat.mul_add];omega) hb
 have h48:¬ (Builtin.nextslicecap (n+m) cap*info.bytes > 2 ^ 48):=by
  have:=growslice_fits (bytes:=ie.bytes) hfit hb1
  rw [hib];omega
 have h63:¬ (((n+m:Nat):Int) > IntKind.i64.max):=by simp [IntKind.max,IntKind.signed,IntKind.bits];omega
 have hnle:¬ (n+m≤cap):=by omega
 have hcap:n+m≤(Question.appendCap (n+m) cap e).cut (w.tape w.drawn (.appendCap (n+m) cap e)):=by simp [Question.cut]
 refine ⟨(Question.appendCap (n+m) cap e).cut (w.tape w.drawn (.appendCap (n+m) cap e)),Builtin.zeroCells z.cells ((Question.appendCap (n+m) cap e).cut (w.tape w.drawn (.appendCap (n+m) cap e))-(n+m)),
  w.drew.alloc (.cells (olds.toArray++news.toArray++Builtin.zeroCells z.cells ((Question.appendCap (n+m) cap e).cut (w.tape w.drawn (.appendCap (n+m) cap e))-(n+m))) e),hcap,?_,rfl,?_,rfl,rfl,rfl⟩
 ·have hq:(Question.appendCap (n+m) cap e).forced=false:=rfl
  unfold Builtin.append_
  simp only [List.getElem?_toArray,List.getElem?_cons_zero,List.getElem?_cons_succ,Sem.run_bind,run_underlying ht,Result.andThen_ok,hie.run_size,run_underlying h2]
  cases d2 <;> simp [isIntD] at hd2 <;> simp only [Sem.run_bind,Sem.run_pure,Result.andThen_ok,Bool.false_eq_true,if_false,hl,hnle,Bool.not_false,hc,Sem.run_ite,h63,false_and,if_false,typeInfo,run_program,hinfo,h48,run_choose,hq,World.drew_eq,run_askRoom,ho,zeroValue,hz,newRow,run_newObj,World.alloc_eq,Bool.not_true,if_true]
  all_goals rfl
 ·simp only [Builtin.zeroCells,Array.size_map,Array.size_range,hzl]
def srcT (T:Tr) (t:Nat):Bool:=match T.find t with
 | some i=>match i.kind with
  | .slice _=>true
  | .str=>true
  | _=>false
 | none=>false
theorem srcT_ok (hT:TOk P T) {t:Nat} (h:srcT T t=true):∃ d,P.underlying t=some d∧isIntD d=false:=by
 unfold srcT at h
 split at h
 ·rename_i i hf
  obtain ⟨d,hd,hk⟩:=(hT.at hf).und
  refine ⟨d,hd,?_⟩
  split at h
  ·rename_i e he;rw [he] at hk;cases d <;> simp_all [kindOk,isIntD]
  ·rename_i he;rw [he] at hk;cases d <;> simp_all [kindOk,isIntD]
  ·cases h
 ·cases h
def appT (T:Tr) (t:Nat):Option (Nat×Nat):=match T.find t with
 | some i=>match i.kind with
  | .slice e=>match T.find e with
   | some ie=>match Nat.beq ie.zero.length ie.size with
    | true=>some (ie.size,ie.bytes)
    | false=>none
   | none=>none
  | _=>none
 | none=>none
theorem appT_ok (hT:TOk P T) {t sz by_:Nat} (h:appT T t=some (sz,by_)):∃ e ie,P.underlying t=some (.slice e)∧TypeAt P e ie∧ie.size=sz∧ie.bytes=by_∧ie.zero.length=ie.size:=by
 unfold appT at h
 split at h
 ·rename_i i hf
  split at h
  ·rename_i e hk
   split at h
   ·rename_i ie hfe
    split at h
    case h_2=>cases h
    rename_i hzb
    cases h
    obtain ⟨d,hd,hkd⟩:=(hT.at hf).und
    rw [hk] at hkd
    cases d <;> simp [kindOk] at hkd
    subst hkd
    exact ⟨e,ie,hd,hT.at hfe,rfl,rfl,Nat.eq_of_beq_eq_true hzb⟩
   ·cases h
  ·cases h
 ·cases h
def asNew (sz:Nat) (x:AV):Option (List (List Dat)):=match x with
 | .nils=>some []
 | .d (.str s)=>match Nat.beq sz 1 with
  | true=>some (s.map fun b=>[.int .u8 (b.toNat:Int)])
  | false=>none
 | x=>match asEs x with
  | some (sz',es)=>match Nat.beq sz' sz with
   | true=>some es
   | false=>none
  | none=>none
theorem asNew_src {G:Gh} {w:World} {sz:Nat} {x:AV} {xv:Value} {es:List (List Dat)} (hi:∀ a x,G.imm a=some x→w.cell? a=some x) (hr:RepA G x xv) (h:asNew sz x=some es) :
  (∀ e,e∈es→e.length=sz)∧∃ news,Src P w xv es.length sz news∧news.length=es.length*sz∧(∀ (k:Nat) (u:Value),news[k]?=some u→oneC u=true) ∧
   ∀ (i:Nat) (e:List Dat) (j:Nat) (d:Dat),es[i]?=some e→e[j]?=some d→∃ u,news[i*sz+j]?=some u∧RepD G.imm d u:=by
 unfold asNew at h
 split at h
 ·cases h
  generalize xv=u at hr
  cases hr
  exact ⟨fun e he=>(by cases he),[],src_nils,by simp,fun k u h=>(by simp at h),fun i e j d h=>(by simp at h)⟩
 ·rename_i s
  split at h
  ·rename_i hb
   obtain rfl:=Nat.eq_of_beq_eq_true hb
   cases h
   rw [hr.str_inv]
   refine ⟨fun e he=>?_,s.map (fun b=>.int .u8 (b.toNat:Int)),fun w' hw'=>⟨?_,?_⟩,by simp,fun k u hk=>?_,fun i e j d he hd=>?_⟩
   ·obtain ⟨b,_,rfl⟩:=List.mem_map.1 he;rfl
   ·simp [Builtin.lenOf,ba_size]
   ·simp only [Builtin.firstCells,List.length_map]
    have:(⟨s.toArray⟩:ByteArray).extract 0 s.length=⟨s.toArray⟩:=by
     apply ByteArray.ext;simp [ByteArray.data_extract]
    rw [this]
    simp
   ·simp only [List.getElem?_map,Option.map_eq_some_iff] at hk
    obtain ⟨b,_,rfl⟩:=hk;rfl
   ·simp only [List.getElem?_map,Option.map_eq_some_iff] at he
    obtain ⟨b,hb,rfl⟩:=he
    cases j with
    | zero=>simp at hd;subst hd;exact ⟨.int .u8 b.toNat,by simp [hb],.int _ _⟩
    | succ j=>simp at hd
  ·cases h
 ·split at h
  ·rename_i sz' es' hes
   split at h
   ·rename_i hb
    obtain rfl:=Nat.eq_of_beq_eq_true hb
    cases h
    have hrd:=asEs_ok hr hes
    refine ⟨?_,src_of_rep hi hrd⟩
    obtain ⟨a,cap,_,hn,hp⟩:=hrd.slice_inv
    cases a with
    | none=>rw [(hn rfl).1];exact fun e he=>by cases he
    | some p=>exact (hp p rfl).2.2.1
   ·cases h
  ·cases h
theorem two_parts {G:Gh} {es es2:List (List Dat)} {sz:Nat} {olds news:List Value} (ho:olds.length=es.length*sz)
  (h1:∀ (i:Nat) (e:List Dat) (j:Nat) (d:Dat),es[i]?=some e→e[j]?=some d→∃ u,olds[i*sz+j]?=some u∧RepD G.imm d u)
  (h2:∀ (i:Nat) (e:List Dat) (j:Nat) (d:Dat),es2[i]?=some e→e[j]?=some d→∃ u,news[i*sz+j]?=some u∧RepD G.imm d u) :
  ∀ (i:Nat) (e:List Dat) (j:Nat) (d:Dat),(es++es2)[i]?=some e→e[j]?=some d→∃ u,(olds++news)[i*sz+j]?=some u∧RepD G.imm d u:=by
 intro i e j d he hd
 by_cases hi:i < es.length
 ·rw [List.getElem?_append_left hi] at he
  obtain ⟨u,hu,hr⟩:=h1 i e j d he hd
  refine ⟨u,?_,hr⟩
  rw [List.getElem?_append_left (List.getElem?_eq_some_iff.1 hu).1];exact hu
 ·rw [List.getElem?_append_right (by omega)] at he
  obtain ⟨u,hu,hr⟩:=h2 _ e j d he hd
  refine ⟨u,?_,hr⟩
  have hge:es.length*sz≤i*sz:=Nat.mul_le_mul_right _ (by omega)
  rw [List.getElem?_append_right (by omega),ho]
  rw [show i*sz+j-es.length*sz=(i-es.length)*sz+j by rw [Nat.sub_mul];omega]
  exact hu
theorem append_full (hT:TOk P T) {t t2 sz by_:Nat} {s x:Operand} {es es2:List (List Dat)} (ho:o.op=.call { callee:=.builtin .append,args:=#[s,x],argTypes:=#[t,t2] })
  (ht:appT T t=some (sz,by_)) (ht2:srcT T t2=true) (hs:ρ s=.sl sz es .full∨(ρ s=.nils∧es=[])) (hx:asNew sz (ρ x)=some es2) (hb:(es.length+es2.length)*(by_+1)≤140737488355328) :
  OpS P E o ρ h (.d (.sl sz (es++es2))) h :=
 qBi fun G e w hw hr=>by
  have hs':RepA G (ρ s) (e s):=hr s (by simp [ho,Op.operands,Call.operands])
  have hx':RepA G (ρ x) (e x):=hr x (by simp [ho,Op.operands,Call.operands])
  obtain ⟨et,ie,h1,h2,rfl,rfl,hzl⟩:=appT_ok hT ht
  obtain ⟨d2,h3,h4⟩:=srcT_ok hT ht2
  obtain ⟨hlen2,news,n1,n2,n3,n4⟩:=asNew_src (P:=P) hw.imm hx' hx
  obtain ⟨a,hsv,hrd⟩:∃ a,e s=.slice a es.length es.length∧RepD G.imm (.sl ie.size es) (e s):=by
   rcases hs with hs | ⟨hs,rfl⟩
   ·rw [hs] at hs'
    generalize e s=u at hs'
    cases hs' with
    | sl r k=>obtain ⟨a,rfl⟩:=k;exact ⟨a,rfl,r⟩
   ·rw [hs] at hs'
    generalize e s=u at hs'
    cases hs'
    exact ⟨none,rfl,.nil _⟩
  obtain ⟨olds,o1,o2,o3,o4⟩:=src_of_rep (P:=P) hw.imm hrd
  have hex:(execOp e o).run P w=((Builtin.append_ #[t,t2] o.type #[e s,e x]).run P w).andThen fun u w'=>.ok (.value u) w':=by
   unfold execOp
   simp [ho,resolve,invoke,builtin]
  by_cases hz:es2=[]
  ·subst hz
   have hn:news=[]:=by simpa using n2
   subst hn
   have hrun:=qCy (ty:=o.type) h1 h3 h4 h2 (w':=w) (a:=a) (n:=es.length) (cap:=es.length) n1 (by simp) (by cases a <;> simp [storeCells])
   refine ⟨e s,w,G,?_,.refl G,hw,.d (by simpa using hrd)⟩
   rw [hex,hsv,hrun];simp
  ·have hpos:0 < es2.length:=List.length_pos_iff.2 hz
   obtain ⟨newCap,rest,w',c1,c2,c3,c4,c5,c6,c7⟩:=qDd (ty:=o.type) h1 h3 h4 h2 hsv o1 n1 (by omega) hb
   have hle:=immExt_le hw ((es++es2).length*ie.size) (olds.toArray++news.toArray++rest)
   have hnew:=hw.newImm ((es++es2).length*ie.size) _ et w' c3 c5 c6 c7
   have hlen1:∀ el,el∈es→el.length=ie.size:=by
    obtain ⟨a',cap',_,hn,hp⟩:=hrd.slice_inv
    cases a' with
    | none=>rw [(hn rfl).1];exact fun e he=>by cases he
    | some p=>exact (hp p rfl).2.2.1
   refine ⟨_,w',_,by rw [hex,c2];rfl,hle,hnew,.d ?_⟩
   rw [show es.length+es2.length=(es++es2).length by simp]
   refine newImm_rep (fun el hel=>by
    rcases List.mem_append.1 hel with hel | hel
    ·exact hlen1 el hel
    ·exact hlen2 el hel) (Nat.le_refl _) _ (by simpa using c1) (fun i el j d he hd=>?_)
   obtain ⟨u,hu,hru⟩:=two_parts o2 o4 n4 i el j d he hd
   refine ⟨u,?_,hru.mono hle.imm⟩
   rw [Array.getElem?_append_left]
   ·simpa using hu
   ·have:=(List.getElem?_eq_some_iff.1 hu).1;simpa using this
end
end Tdoc
namespace Tdoc
open Go
section
variable {P:Program} {E:Env} {T:Tr} {o:Oper} {ρ:Operand→AV} {h h':List AObj} {v:AV}
theorem store_spare {p:Addr} (hp:p.spot=none):∀ (news:List Value) (i0:Nat) (w:World),(∀ (k:Nat) (u:Value),news[k]?=some u→oneC u=true) →
  (∀ k,k < news.length→(∃ v,w.cell? (p.add (i0+k))=some v)∧w.frozen? (p.add (i0+k))=false) →
  ∃ w',(storeCells p news i0).run P w=.ok () w'∧(∀ (k:Nat) (u:Value),news[k]?=some u→w'.cell? (p.add (i0+k))=some u) ∧
   (∀ a:Addr,(∀ k,k < news.length→a≠p.add (i0+k))→w'.cell? a=w.cell? a)∧(∀ a,w'.frozen? a=w.frozen? a)∧(∀ b,b≠p.block→w'.heap[b]?=w.heap[b]?) ∧
   w'.heap.size=w.heap.size∧w'.os=w.os∧w'.tape=w.tape∧w'.output=w.output
 | [],i0,w,_,_=>⟨w,by simp [storeCells],fun k u h=>by simp at h,fun _ _=>rfl,fun _=>rfl,fun _ _=>rfl,rfl,rfl,rfl,rfl⟩
 | u::news,i0,w,hone,hc=>by
  obtain ⟨⟨v0,h1⟩,h2⟩:=hc 0 (by simp)
  have hu:=hone 0 u (by simp)
  rw [Nat.add_zero] at h1 h2
  have hne:∀ x y:Nat,x≠y→p.add x≠p.add y:=by
   intro x y hxy hh
   rw [qCk p hp,qCk p hp] at hh
   injection hh with _ h3 _
   omega
  obtain ⟨w',q1,q2,q3,q4,q5,q6,q7,q8,q9⟩:=store_spare hp news (i0+1) (w.setCell (p.add i0) u) (fun k y hy=>hone (k+1) y (by simpa using hy)) (fun k hk=>by
   obtain ⟨⟨v1,k1⟩,k2⟩:=hc (k+1) (by simp;omega)
   rw [show i0+(k+1)=i0+1+k by omega] at k1 k2
   exact ⟨⟨v1,by rw [World.cell?_setCell_other _ _ _ _ (hne _ _ (by omega))];exact k1⟩,by rw [World.frozen?_setCell];exact k2⟩)
  refine ⟨w',?_,fun k y hy=>?_,fun a ha=>?_,fun a=>by rw [q4,World.frozen?_setCell],fun b hb=>?_,by rw [q6];simp,q7,q8,q9⟩
  ·simp only [storeCells,Sem.run_bind]
   rw [run_store P w _ u .plain (oneC_oneCell' hu),h1]
   simp only [h2,Bool.false_eq_true,if_false,Result.andThen_ok]
   exact q1
  ·cases k with
   | zero =>
    simp at hy;subst hy
    rw [Nat.add_zero,q3 _ (fun k hk=>hne _ _ (by omega))]
    exact World.cell?_setCell_same _ _ _ h1
   | succ k =>
    simp at hy
    have:=q2 k y hy
    rwa [show i0+1+k=i0+(k+1) by omega] at this
  ·rw [q3 a (fun k hk=>by
    have:=ha (k+1) (by simp;omega)
    rwa [show i0+(k+1)=i0+1+k by omega] at this)]
   exact World.cell?_setCell_other _ _ _ _ (fun hh=>ha 0 (by simp) (by rw [Nat.add_zero];exact hh.symm))
  ·rw [q5 b hb]
   simp only [World.setCell,Array.getElem?_modify,qCq]
   rw [if_neg (by omega)]
def inPlace (G:Gh) (p:Addr) (i from_:Nat) (news:List Value) (n' cap:Nat):Gh :=
 { G with
  imm:=fun a=>if a.block=p.block∧a.spot=none∧p.off+from_≤a.off∧a.off < p.off+from_+news.length then news[a.off-(p.off+from_)]? else G.imm a
  rt:=fun j m=>if j=i∧m=n' then some (some p,cap) else G.rt j m }
def outPlace (G:Gh) (b n:Nat) (cs:Array Value) (i n' cap:Nat):Gh :=
 { immExt G b n cs with
  rt:=fun j m=>if j=i∧m=n' then some (some ⟨b,0,none⟩,cap) else G.rt j m
  own:=fun c=>if c=b then some i else G.own c }
theorem append_rightR (hT:TOk P T) {t t2 sz by_ i:Nat} {s x:Operand} {es es2:List (List Dat)} (ho:o.op=.call { callee:=.builtin .append,args:=#[s,x],argTypes:=#[t,t2] })
  (ht:appT T t=some (sz,by_)) (ht2:srcT T t2=true) (hs:ρ s=.sl sz es (.right i)) (hi:h[i]?=some (.right sz es.length)) (hx:asNew sz (ρ x)=some es2)
  (hb:(es.length+es2.length)*(by_+1)≤140737488355328) (G:Gh) (e:Operand→Value) (w:World) (hw:WRel E G h w) (hr:∀ x,x∈o.op.operands.toList→RepA G (ρ x) (e x)) :
  ∃ u w' G',(execOp e o).run P w=.ok (.value u) w'∧G.le G'∧WRel E G' (h.set i (.right sz (es.length+es2.length))) w'∧RepA G' (.sl sz (es++es2) (.right i)) u:=by
  have hs':RepA G (ρ s) (e s):=hr s (by simp [ho,Op.operands,Call.operands])
  have hx':RepA G (ρ x) (e x):=hr x (by simp [ho,Op.operands,Call.operands])
  obtain ⟨et,ie,h1,h2,rfl,rfl,hzl⟩:=appT_ok hT ht
  obtain ⟨d2,h3,h4⟩:=srcT_ok hT ht2
  obtain ⟨hlen2,news,n1,n2,n3,n4⟩:=asNew_src (P:=P) hw.imm hx' hx
  obtain ⟨a,cap,hsv,hrt,hrd⟩:∃ a cap,e s=.slice a es.length cap∧G.rt i es.length=some (a,cap)∧RepD G.imm (.sl ie.size es) (e s):=by
   rw [hs] at hs'
   generalize e s=u at hs'
   cases hs' with
   | sl r k=>obtain ⟨a,cap,rfl,hk⟩:=k;exact ⟨a,cap,rfl,hk,r⟩
  obtain ⟨a',cap',hrt',hcap,hlater,hspare⟩:=hw.obj i _ hi
  rw [hrt] at hrt';cases hrt'
  obtain ⟨olds,o1,o2,o3,o4⟩:=src_of_rep (P:=P) hw.imm hrd
  have hlen1:∀ el,el∈es→el.length=ie.size:=by
   obtain ⟨a',cap',_,hn,hp⟩:=hrd.slice_inv
   cases a' with
   | none=>rw [(hn rfl).1];exact fun e he=>by cases he
   | some p=>exact (hp p rfl).2.2.1
  have hex:(execOp e o).run P w=((Builtin.append_ #[t,t2] o.type #[e s,e x]).run P w).andThen fun u w'=>.ok (.value u) w':=by
   unfold execOp
   simp [ho,resolve,invoke,builtin]
  by_cases hz:es2=[]
  ·subst hz
   have hn:news=[]:=by simpa using n2
   subst hn
   have hrun:=qCy (ty:=o.type) h1 h3 h4 h2 (w':=w) (a:=a) (n:=es.length) (cap:=cap) n1 (by simpa using hcap) (by cases a <;> simp [storeCells])
   have hset:h.set i (.right ie.size (es.length+([]:List (List Dat)).length))=h:=by
    apply List.ext_getElem?
    intro j
    rw [List.getElem?_set]
    split
    ·rename_i e;subst e
     have:=(List.getElem?_eq_some_iff.1 hi).1
     rw [if_pos this,hi];simp
    ·rfl
   refine ⟨e s,w,G,?_,.refl G,by rw [hset];exact hw,.sl (by simpa using hrd) ⟨a,cap,by simpa using hsv,by simpa using hrt⟩⟩
   rw [hex,hsv,hrun];simp
  ·have hpos:0 < es2.length:=List.length_pos_iff.2 hz
   have hrtn:G.rt i (es.length+es2.length)=none:=hlater _ (by omega)
   by_cases hfit:es.length+es2.length≤cap
   ·-- in place
    obtain ⟨p,rfl,p1,p2,p3⟩:=hspare (by omega)
    have hm1:(es.length+es2.length)*ie.size≤cap*ie.size:=Nat.mul_le_mul_right _ hfit
    rw [Nat.add_mul] at hm1
    have hspot:(p.add (es.length*ie.size)).spot=none:=add_spot p p1 _
    obtain ⟨w',q1,q2,q3,q4,q5,q6,q7,q8,q9⟩:=store_spare (P:=P) hspot news 0 w n3 (fun k hk=>by
     rw [Nat.zero_add,qCx p p1]
     obtain ⟨c1,c2,_⟩:=p3 (es.length*ie.size+k) (by omega) (by omega)
     exact ⟨c1,c2⟩)
    have hrun:=qCy (ty:=o.type) h1 h3 h4 h2 (w':=w') (a:=some p) (n:=es.length) (cap:=cap) n1 hfit (by simpa using q1)
    have himm0:∀ a:Addr,a.block=p.block→a.spot=none→p.off+es.length*ie.size≤a.off→a.off < p.off+es.length*ie.size+news.length→G.imm a=none:=by
     intro a ha1 ha2 ha3 ha4
     have:a=p.add (a.off-p.off):=by
      rw [qCk p p1]
      obtain ⟨ab,ao,as⟩:=a
      simp only at ha1 ha2 ha3 ha4 ⊢
      subst ha1;subst ha2
      congr 1;omega
     rw [this]
     exact (p3 (a.off-p.off) (by omega) (by omega)).2.2
    let G':=inPlace G p i (es.length*ie.size) news (es.length+es2.length) cap
    have hle:G.le G':=by
     refine ⟨fun a v ha=>?_,fun _ _ x=>x,fun j m x hx=>?_,fun _ _ x=>x⟩
     ·show (if _ then _ else G.imm a)=some v
      split
      ·rename_i hc;rw [himm0 a hc.1 hc.2.1 hc.2.2.1 hc.2.2.2] at ha;cases ha
      ·exact ha
     ·show (if j=i∧m=es.length+es2.length then _ else G.rt j m)=some x
      split
      ·rename_i hc;rw [hc.1,hc.2,hrtn] at hx;cases hx
      ·exact hx
    have hKb:=(hw.own _ i p2).2
    have hilt:i < h.length:=(List.getElem?_eq_some_iff.1 hi).1
    have hnew:WRel E G' (h.set i (.right ie.size (es.length+es2.length))) w':=by
     refine ⟨hw.le.trans hle,fun a v ha=>?_,fun a v ha=>?_,fun b hb'=>?_,by rw [q6];exact hw.size,q7.trans hw.os,q8.trans hw.tape,q9.trans hw.output,fun b j hb'=>by rw [q6];exact hw.own b j hb',fun j hj=>?_,fun j ob hj=>?_⟩
     ·have ha':(if a.block=p.block∧a.spot=none∧p.off+es.length*ie.size≤a.off∧a.off < p.off+es.length*ie.size+news.length then news[a.off-(p.off+es.length*ie.size)]? else G.imm a)=some v:=ha
      split at ha'
      ·rename_i hc
       have:=q2 _ v ha'
       rw [Nat.zero_add,qCx p p1,qCk p p1] at this
       obtain ⟨ab,ao,as⟩:=a
       simp only at hc this ⊢
       rw [← hc.1,show p.off+(es.length*ie.size+(ao-(p.off+es.length*ie.size)))=ao by omega,← hc.2.1] at this
       exact this
      ·rename_i hc
       rw [q3 a (fun k hk hh=>hc (by
        rw [Nat.zero_add,qCx p p1,qCk p p1] at hh
        subst hh
        exact ⟨rfl,rfl,by simp,by simp;omega⟩))]
       exact hw.imm a v ha'
     ·have ha':(if a.block=p.block∧a.spot=none∧p.off+es.length*ie.size≤a.off∧a.off < p.off+es.length*ie.size+news.length then news[a.off-(p.off+es.length*ie.size)]? else G.imm a)=some v:=ha
      split at ha'
      ·rename_i hc;right;rw [hc.1];exact hKb
      ·exact hw.immNew a v ha'
     ·have:b≠p.block:=fun hh=>hKb (hh▸hb')
      rw [q5 b (by rw [qCq];exact this)];exact hw.keep b hb'
     ·simp only [List.length_set] at hj
      have:=hw.fresh j hj
      refine ⟨this.1,fun m=>?_⟩
      show (if j=i∧m=es.length+es2.length then _ else G.rt j m)=none
      rw [if_neg (by omega)];exact this.2 m
     ·rw [List.getElem?_set] at hj
      split at hj
      ·rename_i hij;subst hij
       cases hj
       refine ⟨some p,cap,?_,hfit,fun n' hn'=>?_,fun hlt=>⟨p,rfl,p1,p2,fun k hk1 hk2=>?_⟩⟩
       ·show (if i=i∧es.length+es2.length=es.length+es2.length then _ else _)=_;simp
       ·show (if i=i∧n'=es.length+es2.length then _ else G.rt i n')=none
        rw [if_neg (by omega)];exact hlater n' (by omega)
       ·rw [Nat.add_mul] at hk1
        obtain ⟨⟨v,c1⟩,c2,c3⟩:=p3 k (by omega) hk2
        refine ⟨⟨v,?_⟩,by rw [q4];exact c2,?_⟩
        ·rw [q3 _ (fun k' hk' hh=>by
          rw [Nat.zero_add,qCx p p1,qCk p p1,qCk p p1] at hh
          injection hh with _ h5 _
          omega)]
         exact c1
        ·show (if (p.add k).block=p.block∧_∧p.off+es.length*ie.size≤(p.add k).off∧(p.add k).off < p.off+es.length*ie.size+news.length then _ else G.imm _)=none
         rw [if_neg (by rw [qCk p p1];simp;omega)];exact c3
      ·rename_i hij
       refine (hw.obj j ob hj).keep hle (fun b hb'=>?_) (fun m hm=>?_) (fun hn=>hn)
       ·have hne:b≠p.block:=fun hh=>by subst hh;rw [p2] at hb';cases hb';exact hij rfl
        refine ⟨q5 b (by rw [qCq];exact hne),fun a ha=>?_⟩
        show (if _ then _ else G.imm a)=G.imm a
        rw [if_neg (by rintro ⟨hc,_⟩;exact hne (ha▸hc))]
       ·show (if j=i∧m=_ then _ else G.rt j m)=none
        rw [if_neg (by rintro ⟨hc,_⟩;exact hij hc.symm)];exact hm
    refine ⟨.slice (some p) (es.length+es2.length) cap,w',G',by rw [hex,hsv,hrun];rfl,hle,hnew,.sl ?_ ⟨some p,cap,by simp,?_⟩⟩
    ·obtain ⟨a0,cap0,hv0,_,hp0⟩:=hrd.slice_inv
     rw [hsv] at hv0
     cases hv0
     obtain ⟨r1,r2,r3,vs,r4,r5⟩:=hp0 p rfl
     rw [show es.length+es2.length=(es++es2).length by simp]
     refine .sl _ _ p cap (fun k=>if k < es.length*ie.size then vs k else news.getD (k-es.length*ie.size) undef) r1 (by simpa using hfit) (fun el hel=>?_) (fun i' el j d he hd=>?_) (fun i' el j d he hd=>?_)
     ·rcases List.mem_append.1 hel with hel | hel
      ·exact hlen1 el hel
      ·exact hlen2 el hel
     ·by_cases hi':i' < es.length
      ·rw [List.getElem?_append_left hi'] at he
       have hjl:j < ie.size:=by rw [← hlen1 el (List.mem_of_getElem? he)];exact (List.getElem?_eq_some_iff.1 hd).1
       have hmul:(i'+1)*ie.size≤es.length*ie.size:=Nat.mul_le_mul_right _ hi'
       rw [Nat.add_mul,Nat.one_mul] at hmul
       rw [if_pos (by omega)]
       exact hle.imm _ _ (r4 i' el j d he hd)
      ·rw [List.getElem?_append_right (by omega)] at he
       obtain ⟨u,hu,hru⟩:=n4 _ el j d he hd
       have hge:es.length*ie.size≤i'*ie.size:=Nat.mul_le_mul_right _ (by omega)
       rw [if_neg (by omega),qCk p p1]
       have hidx:i'*ie.size+j-es.length*ie.size=(i'-es.length)*ie.size+j:=by rw [Nat.sub_mul];omega
       have hlt:=(List.getElem?_eq_some_iff.1 hu).1
       show (if _ then _ else _)=_
       rw [if_pos ⟨rfl,rfl,by simp;omega,by simp;omega⟩]
       rw [show p.off+(i'*ie.size+j)-(p.off+es.length*ie.size)=(i'-es.length)*ie.size+j by omega,hidx,hu]
       simp [List.getD,hu]
     ·by_cases hi':i' < es.length
      ·rw [List.getElem?_append_left hi'] at he
       have hjl:j < ie.size:=by rw [← hlen1 el (List.mem_of_getElem? he)];exact (List.getElem?_eq_some_iff.1 hd).1
       have hmul:(i'+1)*ie.size≤es.length*ie.size:=Nat.mul_le_mul_right _ hi'
       rw [Nat.add_mul,Nat.one_mul] at hmul
       rw [if_pos (by omega)]
       exact (r5 i' el j d he hd).mono hle.imm
      ·rw [List.getElem?_append_right (by omega)] at he
       obtain ⟨u,hu,hru⟩:=n4 _ el j d he hd
       have hge:es.length*ie.size≤i'*ie.size:=Nat.mul_le_mul_right _ (by omega)
       have hidx:i'*ie.size+j-es.length*ie.size=(i'-es.length)*ie.size+j:=by rw [Nat.sub_mul];omega
       rw [if_neg (by omega),hidx]
       simp only [List.getD,hu,Option.getD_some]
       exact hru.mono hle.imm
    ·show (if i=i∧(es++es2).length=es.length+es2.length then _ else _)=_;simp
   ·-- a new row
    obtain ⟨newCap,rest,w',c1,c2,c3,c4,c5,c6,c7⟩:=qDd (ty:=o.type) h1 h3 h4 h2 hsv o1 n1 (by omega) hb
    let cs:=olds.toArray++news.toArray++rest
    let nn:=(es++es2).length*ie.size
    let G':=outPlace G w.heap.size nn cs i (es.length+es2.length) newCap
    have hnnl:olds.length+news.length=nn:=by simp [nn,o2,n2,Nat.add_mul]
    have hown:G.own w.heap.size=none:=by
     cases ho:G.own w.heap.size with
     | none=>rfl
     | some j=>have:=(hw.own _ _ ho).1;omega
    have hK:¬ E.K w.heap.size:=fun hk=>by have:=hw.size;have:=hk.1;omega
    have hilt:i < h.length:=(List.getElem?_eq_some_iff.1 hi).1
    have hle0:=immExt_le hw nn cs
    have hle:G.le G':=by
     refine ⟨hle0.imm,fun _ _ x=>x,fun j m x hx=>?_,fun b j hb'=>?_⟩
     ·show (if j=i∧m=es.length+es2.length then _ else G.rt j m)=some x
      split
      ·rename_i hc;rw [hc.1,hc.2,hrtn] at hx;cases hx
      ·exact hx
     ·show (if b=w.heap.size then some i else G.own b)=some j
      split
      ·rename_i hc;subst hc;rw [hown] at hb';cases hb'
      ·exact hb'
    have hnew0:=hw.newImm nn cs et w' c3 c5 c6 c7
    have hcs:cs.size=olds.length+news.length+rest.size:=by simp [cs];omega
    have hnew:WRel E G' (h.set i (.right ie.size (es.length+es2.length))) w':=by
     refine ⟨hw.le.trans hle,hnew0.imm,hnew0.immNew,hnew0.keep,hnew0.size,hnew0.os,hnew0.tape,hnew0.output,fun b j hb'=>?_,fun j hj=>?_,fun j ob hj=>?_⟩
     ·have hb2:(if b=w.heap.size then some i else G.own b)=some j:=hb'
      split at hb2
      ·rename_i hc;subst hc;exact ⟨by rw [c3];simp,hK⟩
      ·exact hnew0.own b j hb2
     ·simp only [List.length_set] at hj
      have:=hw.fresh j hj
      refine ⟨this.1,fun m=>?_⟩
      show (if j=i∧m=es.length+es2.length then _ else G.rt j m)=none
      rw [if_neg (by omega)];exact this.2 m
     ·rw [List.getElem?_set] at hj
      split at hj
      ·rename_i hij;subst hij
       cases hj
       refine ⟨some ⟨w.heap.size,0,none⟩,newCap,?_,c1,fun n' hn'=>?_,fun hlt=>⟨⟨w.heap.size,0,none⟩,rfl,rfl,?_,fun k hk1 hk2=>?_⟩⟩
       ·show (if i=i∧es.length+es2.length=es.length+es2.length then _ else _)=_;simp
       ·show (if i=i∧n'=es.length+es2.length then _ else G.rt i n')=none
        rw [if_neg (by omega)];exact hlater n' (by omega)
       ·show (if w.heap.size=w.heap.size then _ else _)=_;simp
       ·have hkl:k < cs.size:=by
         have hsum:(es.length+es2.length)*ie.size+(newCap-(es.length+es2.length))*ie.size=newCap*ie.size:=by
          rw [← Nat.add_mul];congr 1;omega
         rw [hcs,c4,hzl,o2,n2,← Nat.add_mul,hsum];exact hk2
        refine ⟨⟨cs[k],?_⟩,?_,?_⟩
        ·have hcell:w'.heap[w.heap.size]?=some (.cells cs et):=by rw [c3];exact Array.getElem?_push_size
         have hget:cs[k]?=some cs[k]:=by simp [hkl]
         rw [qDb,Nat.zero_add]
         simp only [World.cell?,hcell]
         exact hget
        ·rw [qDb];simp [World.frozen?,c3]
        ·rw [qDb]
         show (if w.heap.size=w.heap.size then (if (none:Option Nat)=none∧0+k < nn then _ else none) else _)=none
         have hnk:¬ (0+k < nn):=by simp only [nn,List.length_append];omega
         rw [if_pos rfl,if_neg (fun hh=>hnk hh.2)]
      ·rename_i hij
       refine (hw.obj j ob hj).keep hle (fun b hb'=>?_) (fun m hm=>?_) (fun hn=>hn)
       ·have hlt:=(hw.own b j hb').1
        refine ⟨by rw [c3];exact qAv _ _ _ hlt,fun a ha=>?_⟩
        show (if a.block=w.heap.size then _ else G.imm a)=G.imm a
        rw [if_neg (by omega)]
       ·show (if j=i∧m=_ then _ else G.rt j m)=none
        rw [if_neg (by rintro ⟨hc,_⟩;exact hij hc.symm)];exact hm
    refine ⟨_,w',G',by rw [hex,c2];rfl,hle,hnew,.sl ?_ ⟨some ⟨w.heap.size,0,none⟩,newCap,by simp,?_⟩⟩
    ·rw [show es.length+es2.length=(es++es2).length by simp]
     refine newImm_rep (n:=nn) (cs:=cs) (G:=G) (b:=w.heap.size) (fun el hel=>by
      rcases List.mem_append.1 hel with hel | hel
      ·exact hlen1 el hel
      ·exact hlen2 el hel) (Nat.le_refl _) _ (by simpa using c1) (fun i el j d he hd=>?_)
     obtain ⟨u,hu,hru⟩:=two_parts o2 o4 n4 i el j d he hd
     refine ⟨u,?_,hru.mono hle0.imm⟩
     simp only [cs]
     rw [Array.getElem?_append_left]
     ·simpa using hu
     ·have:=(List.getElem?_eq_some_iff.1 hu).1;simpa using this
    ·show (if i=i∧(es++es2).length=es.length+es2.length then _ else _)=_;simp
theorem append_right (hT:TOk P T) {t t2 sz by_ i:Nat} {s x:Operand} {es es2:List (List Dat)} (ho:o.op=.call { callee:=.builtin .append,args:=#[s,x],argTypes:=#[t,t2] })
  (ht:appT T t=some (sz,by_)) (ht2:srcT T t2=true) (hs:ρ s=.sl sz es (.right i)) (hi:h[i]?=some (.right sz es.length)) (hx:asNew sz (ρ x)=some es2)
  (hb:(es.length+es2.length)*(by_+1)≤140737488355328) :
  OpS P E o ρ h (.sl sz (es++es2) (.right i)) (h.set i (.right sz (es.length+es2.length))):=qBi (append_rightR hT ho ht ht2 hs hi hx hb)
end
end Tdoc
namespace Tdoc
open Go
def forceS {α β:Type}:List α→(List α→β)→β
 | [],k=>k []
 | a::l,k=>forceS l fun r=>k (a::r)
theorem qDf {α β:Type}:∀ (l:List α) (k:List α→β),forceS l k=k l
 | [],k=>rfl
 | a::l,k=>by simp [forceS,qDf l]
def forceV {β:Type} (v:AV) (k:AV→β):β:=match v with
 | .d x=>k (.d x)
 | .sl a b c=>k (.sl a b c)
 | .nils=>k .nils
 | .ptr i off=>k (.ptr i off)
 | .iptr cs=>k (.iptr cs)
 | .nilp=>k .nilp
 | .row a b c d=>k (.row a b c d)
 | .bm a b=>k (.bm a b)
 | .bp a b c=>k (.bp a b c)
 | .fn f a b=>k (.fn f a b)
 | .nilf=>k .nilf
 | .mp i=>k (.mp i)
 | .rx a b c=>k (.rx a b c)
 | .ifc b=>k (.ifc b)
 | .agg cs=>forceS cs fun c=>k (.agg c)
 | .tup vs=>k (.tup vs)
 | .gd b v=>k (.gd b v)
 | .any=>k .any
theorem qDe {β:Type} (v:AV) (k:AV→β):forceV v k=k v:=by cases v <;> simp [forceV,qDf]
def forceL {β:Type}:List AV→(List AV→β)→β
 | [],k=>k []
 | a::l,k=>forceV a fun a=>forceL l fun r=>k (a::r)
theorem forceL_eq {β:Type}:∀ (l:List AV) (k:List AV→β),forceL l k=k l
 | [],k=>rfl
 | a::l,k=>by simp [forceL,qDe,forceL_eq l]
def forceP {β:Type}:List (Nat×AV)→(List (Nat×AV)→β)→β
 | [],k=>k []
 | (i,v)::l,k=>forceV v fun v=>forceP l fun r=>k ((i,v)::r)
theorem forceP_eq {β:Type}:∀ (l:List (Nat×AV)) (k:List (Nat×AV)→β),forceP l k=k l
 | [],k=>rfl
 | (i,v)::l,k=>by simp [forceP,qDe,forceP_eq l]
def wrapP (x:Option AV):Option (AV×Prop):=match x with
 | some v=>some (v,True)
 | none=>none
def aopP (T:Tr) (op:Op) (ρ:Operand→AV):Option (AV×Prop) :=
 match op with
 | .move x=>some (ρ x,True)
 | .assign x=>some (ρ x,True)
 | .pick c a b=>match b with
  | .const (.bool false)=>pickAnd (ρ c) (ρ a)
  | b=>match a with
   | .const (.bool true)=>pickOr (ρ c) (ρ b)
   | _=>none
 | .build t parts=>forceP (parts.toList.map fun x=>(x.1,ρ x.2)) fun l=>wrapP (buildA T t l)
 | .nilCheck x=>match nilOk (ρ x) with
  | true=>some (ρ x,True)
  | false=>none
 | .binOp op t x y _=>binA T op t (ρ x) (ρ y)
 | .unOp op _ x=>wrapP (unA op (ρ x))
 | .convert s t x=>convA T s t (ρ x)
 | .makeFunc f first cap=>forceL (first.toList.map ρ) fun a=>forceL (cap.toList.map ρ) fun b=>some (.fn f a b,True)
 | .fieldAddr t x f=>wrapP (faddr T t f (ρ x))
 | .field t x f=>wrapP (partA T t f (ρ x))
 | .index t x ix=>indexStr T t (ρ x) (ρ ix)
 | .slice t x lo hi mx=>match mx with
  | none=>match optInt ρ lo,optInt ρ hi with
   | some l,some h=>sliceA T t (ρ x) l h
   | _,_=>none
  | some _=>none
 | .extract x n=>wrapP (extractA n (ρ x))
 | .load t x=>match ρ x with
  | .iptr cs=>wrapP (loadI T t cs)
  | _=>none
 | .call c=>match c with
  | ⟨.builtin .len,⟨[x]⟩,⟨[t]⟩⟩=>wrapP (lenA T t (ρ x))
  | _=>none
 | _=>none
def aopH (T:Tr) (op:Op) (ρ:Operand→AV) (h:List AObj):Option (AV×List AObj) :=
 match op with
 | .alloc t=>match T.find t with
  | some i=>some (.ptr h.length 0,h++[.row i.zero])
  | none=>none
 | .box _ x=>forceV (ρ x) fun x=>match cellsA x with
  | some cs=>forceS cs fun cs=>some (.ptr h.length 0,h++[.row cs])
  | none=>none
 | .load t x=>match ρ x with
  | .ptr i off=>match h[i]? with
   | some (.row cells)=>match loadA T t cells off with
    | some v=>some (v,h)
    | none=>none
   | _=>none
  | _=>none
 | .store t x y=>match ρ x with
  | .ptr i off=>match h[i]? with
   | some (.row cells)=>forceV (ρ y) fun y=>match storeA T t cells off y with
    | some cells'=>forceS cells' fun cells'=>some (.any,h.set i (.row cells'))
    | none=>none
   | _=>none
  | _=>none
 | .buildSlice t len parts=>match buildSlA T t len (parts.toList.map fun x=>(x.1,ρ x.2)) with
  | some v=>some (v,h)
  | none=>none
 | _=>none
section
variable {P:Program} {E:Env} {T:Tr} {o:Oper} {ρ:Operand→AV} {h h':List AObj} {v:AV}
theorem wrapP_some {x:Option AV} {C:Prop} (h:wrapP x=some (v,C)):x=some v:=by
 unfold wrapP at h;split at h
 ·cases h;rfl
 ·cases h
theorem aopP_ok (hT:TOk P T) (hρ:∀ z,ρ (.const z)=ofVal z) {C:Prop} (h:aopP T o.op ρ=some (v,C)) (hC:C):OpP P o ρ v:=by
 obtain ⟨dst,op,ty,pos,after,guard⟩:=o
 simp only at h
 unfold aopP at h
 split at h
 ·cases h;exact move_ok (.inl rfl)
 ·cases h;exact move_ok (.inr rfl)
 ·split at h
  ·exact pickAnd_ok hρ rfl h hC
  ·split at h
   ·exact pickOr_ok hρ rfl h hC
   ·cases h
 ·rw [forceP_eq] at h;exact build_ok hT rfl (wrapP_some h)
 ·split at h
  ·rename_i hn;cases h;exact nilCheck_ok rfl hn
  ·cases h
 ·exact binA_ok hT rfl h hC
 ·exact unA_ok rfl (wrapP_some h)
 ·exact convA_ok hT rfl h hC
 ·rw [forceL_eq,forceL_eq] at h;cases h;exact makeFunc_ok rfl
 ·exact fieldAddr_ok hT rfl (wrapP_some h)
 ·exact field_ok hT rfl (wrapP_some h)
 ·exact indexStr_ok hT rfl h hC
 ·split at h
  ·split at h
   ·rename_i l r hl hr;exact sliceA_ok hT rfl hl hr h hC
   ·cases h
  ·cases h
 ·exact extractA_ok rfl (wrapP_some h)
 ·split at h
  ·rename_i hx;exact loadI_ok hT rfl hx (wrapP_some h)
  ·cases h
 ·split at h
  ·exact lenA_ok hT rfl (wrapP_some h)
  ·cases h
 ·cases h
theorem aopH_ok (hT:TOk P T) (hh:aopH T o.op ρ h=some (v,h')):OpS P E o ρ h v h':=by
 obtain ⟨dst,op,ty,pos,after,guard⟩:=o
 simp only at hh
 unfold aopH at hh
 split at hh
 ·split at hh
  ·rename_i hf;cases hh;exact alloc_ok hT rfl hf
  ·cases hh
 ·rw [qDe] at hh
  split at hh
  ·rename_i hx;rw [qDf] at hh;cases hh;exact box_ok rfl hx
  ·cases hh
 ·split at hh
  ·rename_i hx
   split at hh
   ·rename_i hi
    split at hh
    ·rename_i hv;cases hh;exact qDj hT rfl hx hi hv
    ·cases hh
   ·cases hh
  ·cases hh
 ·split at hh
  ·rename_i hx
   split at hh
   ·rename_i hi
    rw [qDe] at hh
    split at hh
    ·rename_i hv;rw [qDf] at hh;cases hh;exact store_ok hT rfl hx hi hv
    ·cases hh
   ·cases hh
  ·cases hh
 ·split at hh
  ·rename_i hv;cases hh;exact qCz hT rfl hv
  ·cases hh
 ·cases hh
end
def putA (τ:Nat→AV) (dst:Option Tmp) (v:AV):Nat→AV:=match dst with
 | some d=>fun t=>bif Nat.beq t d then v else τ t
 | none=>τ
def look:List (Nat×AV)→Nat→AV
 | [],_=>.any
 | (d,v)::r,t=>bif Nat.beq t d then v else look r t
def dstOk (N:Nat) (o:Oper):Bool:=match o.dst with
 | some d=>Nat.blt d N
 | none=>true
def OpR (P:Program) (E:Env) (o:Oper) (ρ:Operand→AV) (h:List AObj) (R:AV→List AObj→Prop):Prop :=
 ∀ (G:Gh) (a:Act) (w:World),WRel E G h w→(∀ x,x∈o.op.operands.toList→RepA G (ρ x) (a.eval x)) →
  o.wp P a w (fun a' w'=>∃ u G' v h',R v h'∧a'=a.put o.dst u∧G.le G'∧WRel E G' h' w'∧RepA G' v u) (fun _ _ _=>False)
theorem wp_mono2 {P:Program} {o:Oper} {a:Act} {w:World} {K K':Act→World→Prop} {Q:Exit→Act→World→Prop} (h:∀ a w,K a w→K' a w) (hh:o.wp P a w K (fun _ _ _=>False)):o.wp P a w K' Q:=by
 unfold Oper.wp at *
 generalize (execOp a.eval o).run P w=r at *
 cases r with
 | ok n w' =>
  cases n <;> simp only [Oper.upon] at hh ⊢ <;>
   first
    | exact h _ _ hh
    | exact Calls.mono hh (fun e w'' he=>by cases e <;> first | exact h _ _ he | exact he.elim | (obtain ⟨_,_,hf⟩:=he;exact hf.elim))
    | exact Rows.mono hh (fun _ _ he=>h _ _ he)
 | halt x w'=>cases x <;> simp only [Oper.upon] at hh ⊢ <;> exact hh.elim
theorem qDa {P:Program} {E:Env} {o:Oper} {ρ:Operand→AV} {h h':List AObj} {v:AV} (H:OpS P E o ρ h v h'):OpR P E o ρ h (fun a b=>a=v∧b=h'):=by
 intro G a w hw hr
 exact wp_mono2 (fun a' w' ⟨u,G',h1,h2,h3,h4⟩=>⟨u,G',v,h',⟨rfl,rfl⟩,h1,h2,h3,h4⟩) (H G a w hw hr)
def StepR (P:Program) (E:Env) (N:Nat) (ops:Array Oper) (o:Oper) (τ:Nat→AV) (h:List AObj) (R:AV→List AObj→Prop):Prop :=
 dstOk N o=true∧match o.guard with
 | none=>OpR P E o (ev τ) h R
 | some (j,want)=>∃ d ex,(ops[j]?).bind (·.dst)=some d∧Nat.blt d N=true∧(∀ G v,RepA G (τ d) v→(v=.bool want↔ex=true))∧(ex=true→OpR P E o (ev τ) h R)∧(ex=false→∃ v,R v h∧∀ G,RepA G v undef)
theorem eval_rep {G:Gh} {τ:Nat→AV} {a:Act} (htab:TabI G.imm) (ht:∀ t,RepA G (τ t) (a.tmps.getD t undef)) (x:Operand):RepA G (ev τ x) (a.eval x):=by
 cases x with
 | tmp t=>exact ht t
 | const v=>exact ofVal_ok G v
 | global g=>exact glob_rep htab g
 | func f=>exact .fn _ #[] #[] rfl rfl (fun j x v h=>by simp at h) (fun j x v h=>by simp at h)
theorem rep_put {G:Gh} {τ:Nat→AV} {tmps:Array Value} {dst:Option Tmp} {v:AV} {u:Value} {N:Nat} (hs:tmps.size=N) (hd:∀ d,dst=some d→d < N) (ht:∀ t,RepA G (τ t) (tmps.getD t undef)) (hv:RepA G v u)
  (ds:List Deferred):∀ t,RepA G (putA τ dst v t) ((Act.put ⟨tmps,ds⟩ dst u).tmps.getD t undef):=by
 intro t
 cases dst with
 | none=>exact ht t
 | some d =>
  have hdn:=hd d rfl
  show RepA G (bif Nat.beq t d then v else τ t) ((tmps.setIfInBounds d u).getD t undef)
  cases hb:Nat.beq t d with
  | true =>
   obtain rfl:=Nat.eq_of_beq_eq_true hb
   simp [hs,hdn];exact hv
  | false =>
   have hne:d≠t:=fun hh=>by subst hh;rw [Nat.beq_refl] at hb;cases hb
   have:=ht t
   simpa [Array.getElem?_setIfInBounds_ne hne] using this
theorem dstOk_lt {N:Nat} {o:Oper} (h:dstOk N o=true):∀ d,o.dst=some d→d < N:=by
 intro d hd
 unfold dstOk at h
 rw [hd] at h
 exact Nat.le_of_ble_eq_true h
theorem put_size (a:Act) (dst:Option Tmp) (u:Value):(a.put dst u).tmps.size=a.tmps.size:=by cases dst <;> simp [Act.put]
theorem qDp (a:Act) (dst:Option Tmp) (u:Value):(a.put dst u).defers=a.defers:=by cases dst <;> rfl
theorem step_sound {P:Program} {E:Env} {N:Nat} {ops:Array Oper} {Q:Exit→Act→World→Prop} {i:Nat} {o:Oper} (ho:ops[i]?=some o) {τ:Nat→AV} {h:List AObj} {R:AV→List AObj→Prop} {K:Act→World→Prop} {a:Act} {w:World}
  (hs:StepR P E N ops o τ h R) (hr:Rel E N τ h a w) (hk:∀ v h' a' w',R v h'→Rel E N (putA τ o.dst v) h' a' w'→K a' w'):wpOp P ops Q i K a w:=by
 obtain ⟨hd,hg⟩:=hs
 obtain ⟨r1,r2,G,hw,ht⟩:=hr
 have hdl:=dstOk_lt hd
 have go:OpR P E o (ev τ) h R→o.wp P a w K Q:=fun H=>by
  refine wp_mono2 ?_ (H G a w hw (fun x _=>eval_rep (E.tab.1.mono hw.le.imm) ht x))
  rintro a' w' ⟨u,G',v,h',hR,rfl,hle,hw',hv⟩
  refine hk v h' _ w' hR ⟨by rw [put_size];exact r1,by rw [qDp];exact r2,G',hw',?_⟩
  obtain ⟨tmps,ds⟩:=a
  exact rep_put r1 hdl (fun t=>(ht t).mono hle) hv ds
 unfold wpOp
 simp only [ho]
 cases hgd:o.guard with
 | none =>
  rw [hgd] at hg
  have:Region.wanted o (yielded ops a.tmps)=true:=by simp [Region.wanted,hgd]
  rw [if_pos this]
  exact .inl (go hg)
 | some g =>
  obtain ⟨j,want⟩:=g
  rw [hgd] at hg
  obtain ⟨d,ex,h1,h2,h3,h4,h5⟩:=hg
  have hv:=h3 G _ (ht d)
  have hdn:d < a.tmps.size:=by rw [r1];exact Nat.le_of_ble_eq_true h2
  have hget:a.tmps[d]?=some (a.tmps.getD d undef):=by
   rw [Array.getD_eq_getD_getElem?]
   have h6:a.tmps[d]?=some a.tmps[d]:=by simp [hdn]
   rw [h6];rfl
  have hwd:Region.wanted o (yielded ops a.tmps)=ex:=by
   unfold Region.wanted yielded
   rw [hgd]
   simp only [h1,Option.bind_some,hget]
   generalize a.tmps.getD d undef=u at hv
   cases ex with
   | true =>
    rw [hv.2 rfl];simp
   | false =>
    have hne:u≠.bool want:=fun hh=>by have:=hv.1 hh;cases this
    cases u <;> simp
    rename_i b
    intro hh;exact hne (by rw [hh])
  rw [hwd]
  cases ex with
  | true=>rw [if_pos rfl];exact .inl (go (h4 rfl))
  | false =>
   rw [if_neg (by simp)]
   obtain ⟨v,hR,hv0⟩:=h5 rfl
   refine hk v h _ w hR ⟨by rw [put_size];exact r1,by rw [qDp];exact r2,G,hw,?_⟩
   obtain ⟨tmps,ds⟩:=a
   exact rep_put r1 hdl ht (hv0 G) ds
def AWk (P:Program) (E:Env) (N:Nat) (ops:List Oper) (Q:(Nat→AV)→List AObj→Prop):List Oper→(Nat→AV)→List AObj→Prop
 | [],τ,h=>Q τ h
 | o::rest,τ,h=>∃ R,StepR P E N ops.toArray o τ h R∧∀ v h',R v h'→AWk P E N ops Q rest (putA τ o.dst v) h'
theorem AWk_sound {P:Program} {E:Env} {N:Nat} {ops:List Oper} {Q:Exit→(Nat→AV)→List AObj→Prop}:∀ (rest:List Oper) (k:Nat) (τ:Nat→AV) (h:List AObj) (a:Act) (w:World),(∀ j,rest[j]?=ops[k+j]?) →
  AWk P E N ops (Q .normal) rest τ h→Rel E N τ h a w →
  wpOps P ops.toArray (fun ex a' w'=>∃ τ' h',Q ex τ' h'∧Rel E N τ' h' a' w') (List.range' k rest.length) a w
 | [],k,τ,h,a,w,_,hk,hr=>⟨τ,h,hk,hr⟩
 | o::rest,k,τ,h,a,w,hj,hk,hr=>by
  obtain ⟨R,hs,hnext⟩:=hk
  have ho:ops.toArray[k]?=some o:=by simpa using (hj 0).symm
  simp only [List.length_cons,List.range'_succ]
  rw [wpOps_cons]
  exact step_sound ho hs hr fun v h' a' w' hR hrel =>
   AWk_sound rest (k+1) _ _ a' w' (fun j=>by have:=hj (j+1);simpa [Nat.add_assoc,Nat.add_comm 1 j] using this) (hnext v h' hR) hrel
theorem qAn {P:Program} {E:Env} {N:Nat} {id:Nat} {ops:List Oper} {Q:Exit→(Nat→AV)→List AObj→Prop} {τ:Nat→AV} {h:List AObj} (hk:AWk P E N ops (Q .normal) ops τ h):AW P E N (.region id ops.toArray false) Q τ h:=by
 intro a w hr
 refine wp_region ?_
 have:=AWk_sound ops 0 τ h a w (fun j=>by simp) hk hr
 simpa [List.range_eq_range'] using this
theorem AWk_nil {P:Program} {E:Env} {N:Nat} {ops:List Oper} {Q:(Nat→AV)→List AObj→Prop} {τ:Nat→AV} {h:List AObj} (hq:Q τ h):AWk P E N ops Q [] τ h:=hq
def astep (T:Tr) (op:Op) (ρ:Operand→AV) (h:List AObj):Option (AV×List AObj×Prop) :=
 match aopP T op ρ with
 | some (v,C)=>forceV v fun v=>some (v,h,C)
 | none=>match aopH T op ρ h with
  | some (v,h')=>forceV v fun v=>forceS h' fun h'=>some (v,h',True)
  | none=>none
theorem astep_ok {P:Program} {E:Env} {T:Tr} (hT:TOk P T) {o:Oper} {τ:Nat→AV} {h h':List AObj} {v:AV} {C:Prop} (hs:astep T o.op (ev τ) h=some (v,h',C)) (hC:C):OpS P E o (ev τ) h v h':=by
 unfold astep at hs
 split at hs
 ·rename_i hp;rw [qDe] at hs;cases hs;exact qAc (aopP_ok hT (fun _=>rfl) hp hC)
 ·split at hs
  ·rename_i hh;rw [qDe,qDf] at hs;cases hs;exact aopH_ok hT hh
  ·cases hs
def putL (l:List (Nat×AV)) (dst:Option Tmp) (v:AV):List (Nat×AV):=match dst with
 | some d=>(d,v)::l
 | none=>l
theorem look_putL (l:List (Nat×AV)) (dst:Option Tmp) (v:AV):look (putL l dst v)=putA (look l) dst v:=by
 cases dst <;> rfl
theorem qCa {P:Program} {E:Env} {N:Nat} {T:Tr} (hT:TOk P T) {ops:List Oper} {Q:(Nat→AV)→List AObj→Prop} {d:Nat} {op:Op} {ty:TypeId} {pos:String} {after:Array Edge} {rest:List Oper}
  {l:List (Nat×AV)} {h h':List AObj} {v:AV} {C:Prop} (hs:astep T op (ev (look l)) h=some (v,h',C)) (hd:Nat.blt d N=true) (hC:C) (hk:AWk P E N ops Q rest (look ((d,v)::l)) h') :
  AWk P E N ops Q (⟨some d,op,ty,pos,after,none⟩::rest) (look l) h :=
 ⟨_,⟨hd,qDa (astep_ok hT hs hC)⟩,fun v' h'' ⟨h1,h2⟩=>by subst h1;subst h2;exact hk⟩
theorem AWk_step0 {P:Program} {E:Env} {N:Nat} {T:Tr} (hT:TOk P T) {ops:List Oper} {Q:(Nat→AV)→List AObj→Prop} {op:Op} {ty:TypeId} {pos:String} {after:Array Edge} {rest:List Oper}
  {l:List (Nat×AV)} {h h':List AObj} {v:AV} {C:Prop} (hs:astep T op (ev (look l)) h=some (v,h',C)) (hC:C) (hk:AWk P E N ops Q rest (look l) h') :
  AWk P E N ops Q (⟨none,op,ty,pos,after,none⟩::rest) (look l) h :=
 ⟨_,⟨rfl,qDa (astep_ok hT hs hC)⟩,fun v' h'' ⟨h1,h2⟩=>by subst h1;subst h2;exact hk⟩
theorem qAd {P:Program} {E:Env} {N:Nat} {ops:List Oper} {Q:(Nat→AV)→List AObj→Prop} {d:Nat} {op:Op} {ty:TypeId} {pos:String} {after:Array Edge} {rest:List Oper}
  {l:List (Nat×AV)} {h h':List AObj} {v:AV} (hs:OpS P E ⟨some d,op,ty,pos,after,none⟩ (ev (look l)) h v h') (hd:Nat.blt d N=true) (hk:AWk P E N ops Q rest (look ((d,v)::l)) h') :
  AWk P E N ops Q (⟨some d,op,ty,pos,after,none⟩::rest) (look l) h :=
 ⟨_,⟨hd,qDa hs⟩,fun v' h'' ⟨h1,h2⟩=>by subst h1;subst h2;exact hk⟩
theorem AWk_opR {P:Program} {E:Env} {N:Nat} {ops:List Oper} {Q:(Nat→AV)→List AObj→Prop} {d:Nat} {op:Op} {ty:TypeId} {pos:String} {after:Array Edge} {rest:List Oper}
  {l:List (Nat×AV)} {h:List AObj} {R:AV→List AObj→Prop} (hs:OpR P E ⟨some d,op,ty,pos,after,none⟩ (ev (look l)) h R) (hd:Nat.blt d N=true) (hk:∀ v h',R v h'→AWk P E N ops Q rest (look ((d,v)::l)) h') :
  AWk P E N ops Q (⟨some d,op,ty,pos,after,none⟩::rest) (look l) h :=
 ⟨_,⟨hd,hs⟩,hk⟩
def ung:AV→AV
 | .gd _ v=>v
 | v=>v
def gAll (τ:Nat→AV):List Operand→Prop
 | []=>True
 | x::l=>match ev τ x with
  | .gd b _=>b=true∧gAll τ l
  | _=>gAll τ l
def evU (τ:Nat→AV) (x:Operand):AV:=ung (ev τ x)
def evG (τ:Nat→AV) (op:Op) (x:Operand):AV:=match op with
 | .pick c _ _=>match c,x with
  | .tmp i,.tmp j=>bif Nat.beq i j then evU τ x else ev τ x
  | _,_=>ev τ x
 | _=>evU τ x
def gOps (op:Op):List Operand:=match op with
 | .pick c _ _=>[c]
 | op=>op.operands.toList
theorem ung_ofVal (z:Value):ung (ofVal z)=ofVal z:=by
 unfold ofVal;split <;> rfl
theorem gAll_at {τ:Nat→AV}:∀ {l:List Operand},gAll τ l→∀ x,x∈l→∀ b v,ev τ x=.gd b v→b=true
 | [],_,x,hx,_,_,_=>by cases hx
 | y::l,h,x,hx,b,v,he=>by
  unfold gAll at h
  split at h
  ·rename_i b' v' hy
   cases hx with
   | head=>rw [he] at hy;cases hy;exact h.1
   | tail _ hx=>exact gAll_at h.2 x hx b v he
  ·rename_i hn
   cases hx with
   | head=>exact absurd he (hn _ _)
   | tail _ hx=>exact gAll_at h x hx b v he
theorem evU_rep {G:Gh} {τ:Nat→AV} {x:Operand} {v:Value} (hr:RepA G (ev τ x) v) (hg:∀ b u,ev τ x=.gd b u→b=true):RepA G (evU τ x) v:=by
 unfold evU
 cases hv:ev τ x <;> rw [hv] at hr <;> try exact hr
 exact hr.gd_inv (hg _ _ hv)
theorem evG_rep {G:Gh} {τ:Nat→AV} {op:Op} (hg:gAll τ (gOps op)) {x:Operand} {v:Value} (hx:x∈op.operands.toList) (hr:RepA G (ev τ x) v):RepA G (evG τ op x) v:=by
 unfold evG
 split
 ·rename_i c a b
  split
  ·rename_i i j
   cases hb:Nat.beq i j with
   | true =>
    obtain rfl:=Nat.eq_of_beq_eq_true hb
    exact evU_rep hr (gAll_at hg _ (by simp [gOps]))
   | false=>exact hr
  ·exact hr
 ·rename_i hne
  refine evU_rep hr (gAll_at hg x ?_)
  unfold gOps
  split
  ·rename_i c a b;exact absurd rfl (hne c a b)
  ·exact hx
theorem OpR_ung {P:Program} {E:Env} {o:Oper} {τ:Nat→AV} {h:List AObj} {R:AV→List AObj→Prop} (hg:gAll τ (gOps o.op)) (H:OpR P E o (evG τ o.op) h R):OpR P E o (ev τ) h R :=
 fun G a w hw hr=>H G a w hw fun x hx=>evG_rep hg hx (hr x hx)
theorem evG_const (τ:Nat→AV) (op:Op) (z:Value):evG τ op (.const z)=ofVal z:=by
 unfold evG
 split
 ·rename_i c a b;cases c <;> rfl
 ·exact ung_ofVal z
theorem astepU_ok {P:Program} {E:Env} {T:Tr} (hT:TOk P T) {o:Oper} {τ:Nat→AV} {h h':List AObj} {v:AV} {C:Prop} (hs:astep T o.op (evG τ o.op) h=some (v,h',C)) (hC:C):OpS P E o (evG τ o.op) h v h':=by
 unfold astep at hs
 split at hs
 ·rename_i hp;rw [qDe] at hs;cases hs;exact qAc (aopP_ok hT (fun z=>evG_const τ _ z) hp hC)
 ·split at hs
  ·rename_i hh;rw [qDe,qDf] at hs;cases hs;exact aopH_ok hT hh
  ·cases hs
theorem OpR_mono {P:Program} {E:Env} {o:Oper} {ρ:Operand→AV} {h:List AObj} {R R':AV→List AObj→Prop} (H:OpR P E o ρ h R) (hR:∀ v h',R v h'→∃ v',R' v' h'∧∀ G x,RepA G v x→RepA G v' x):OpR P E o ρ h R':=by
 intro G a w hw hr
 refine wp_mono2 ?_ (H G a w hw hr)
 rintro a' w' ⟨u,G',v,h',h0,h1,h2,h3,h4⟩
 obtain ⟨v',k1,k2⟩:=hR v h' h0
 exact ⟨u,G',v',h',k1,h1,h2,h3,k2 _ _ h4⟩
def gval (b want:Bool):Bool:=match want with
 | true=>b
 | false=>!b
theorem gval_eq {b want:Bool}:gval b want=true↔b=want:=by cases b <;> cases want <;> simp [gval]
def gslot (ops:List Oper) (l:List (Nat×AV)) (j:Nat) (want:Bool):Option (Nat×Bool):=match ops[j]? with
 | some o=>match o.dst with
  | some d=>match look l d with
   | .d (.bool b)=>some (d,gval b want)
   | .gd g (.d (.bool b))=>some (d,g&&gval b want)
   | _=>none
  | none=>none
 | none=>none
theorem gslot_ok {ops:List Oper} {l:List (Nat×AV)} {j d:Nat} {want ex:Bool} (h:gslot ops l j want=some (d,ex)):(ops.toArray[j]?).bind (·.dst)=some d∧∀ G v,RepA G (look l d) v→(v=.bool want↔ex=true):=by
 unfold gslot at h
 split at h
 ·rename_i o ho
  split at h
  ·rename_i d' hd
   split at h
   ·rename_i b' hl
    cases h
    refine ⟨by simp [ho,hd],fun G v hr=>?_⟩
    rw [hl] at hr
    rw [hr.bool_inv,gval_eq];simp
   ·rename_i g b' hl
    cases h
    refine ⟨by simp [ho,hd],fun G v hr=>?_⟩
    rw [hl] at hr
    cases g with
    | true=>rw [(hr.gd_inv rfl).bool_inv,Bool.true_and,gval_eq];simp
    | false=>rw [hr.gd_undef rfl];simp [undef]
   ·cases h
  ·cases h
 ·cases h
theorem guard_ok {P:Program} {E:Env} {N:Nat} {ops:List Oper} {o:Oper} {l:List (Nat×AV)} {h:List AObj} {v:AV} {j gd:Nat} {want ex:Bool} (hgd':o.guard=some (j,want)) (hg:gslot ops l j want=some (gd,ex)) (hd:dstOk N o=true) (hgd:Nat.blt gd N=true)
  (H:ex=true→gAll (look l) (gOps o.op)∧OpS P E o (evG (look l) o.op) h v h):StepR P E N ops.toArray o (look l) h (fun a b=>a=.gd ex v∧b=h):=by
 obtain ⟨g1,g2⟩:=gslot_ok hg
 refine ⟨hd,?_⟩
 rw [hgd']
 refine ⟨gd,ex,g1,hgd,g2,fun hb=>?_,fun hb=>⟨_,⟨rfl,rfl⟩,fun G=>.gd (fun hh=>by rw [hb] at hh;cases hh) (fun _=>rfl)⟩⟩
 have hc:=H hb
 refine OpR_ung hc.1 (OpR_mono (qDa hc.2) ?_)
 rintro v' h' ⟨rfl,rfl⟩
 exact ⟨_,⟨rfl,rfl⟩,fun G x hx=>.gd (fun _=>hx) (fun hh=>by rw [hb] at hh;cases hh)⟩
theorem AWk_gstep {P:Program} {E:Env} {N:Nat} {T:Tr} (hT:TOk P T) {ops:List Oper} {Q:(Nat→AV)→List AObj→Prop} {d:Nat} {op:Op} {ty:TypeId} {pos:String} {after:Array Edge} {j:Nat} {want:Bool} {rest:List Oper}
  {l:List (Nat×AV)} {h:List AObj} {v:AV} {C:Prop} {gd:Nat} {ex:Bool} (hg:gslot ops l j want=some (gd,ex)) (hs:astep T op (evG (look l) op) h=some (v,h,C)) (hd:Nat.blt d N=true) (hgd:Nat.blt gd N=true)
  (hC:ex=true→gAll (look l) (gOps op)∧C) (hk:AWk P E N ops Q rest (look ((d,.gd ex v)::l)) h) :
  AWk P E N ops Q (⟨some d,op,ty,pos,after,some (j,want)⟩::rest) (look l) h :=
 ⟨_,guard_ok rfl hg hd hgd (fun hb=>⟨(hC hb).1,astepU_ok (o:=⟨some d,op,ty,pos,after,some (j,want)⟩) hT hs (hC hb).2⟩),fun v' h'' ⟨h1,h2⟩=>by subst h1;subst h2;exact hk⟩
theorem qBq {P:Program} {E:Env} {N:Nat} {ops:List Oper} {Q:(Nat→AV)→List AObj→Prop} {d:Nat} {op:Op} {ty:TypeId} {pos:String} {after:Array Edge} {j:Nat} {want:Bool} {rest:List Oper}
  {l:List (Nat×AV)} {h:List AObj} {v:AV} {gd:Nat} {ex:Bool} (hg:gslot ops l j want=some (gd,ex)) (hd:Nat.blt d N=true) (hgd:Nat.blt gd N=true)
  (hC:ex=true→gAll (look l) (gOps op)∧OpS P E ⟨some d,op,ty,pos,after,some (j,want)⟩ (evG (look l) op) h v h) (hk:AWk P E N ops Q rest (look ((d,.gd ex v)::l)) h) :
  AWk P E N ops Q (⟨some d,op,ty,pos,after,some (j,want)⟩::rest) (look l) h :=
 ⟨_,guard_ok rfl hg hd hgd hC,fun v' h'' ⟨h1,h2⟩=>by subst h1;subst h2;exact hk⟩
end Tdoc
namespace Tdoc
open Go
def updH (h:List AObj):List Nat→List AObj→List AObj
 | j::fs,o::os=>updH (h.set j o) fs os
 | _,_=>h
theorem qDi:∀ (fs:List Nat) (os h:List AObj),(updH h fs os).length=h.length
 | [],os,h=>by cases os <;> rfl
 | j::fs,[],h=>rfl
 | j::fs,o::os,h=>by simp [updH,qDi fs os]
theorem updH_other:∀ (fs:List Nat) (os h:List AObj) (j:Nat),j∉fs→(updH h fs os)[j]?=h[j]?
 | [],os,h,j,_=>by cases os <;> rfl
 | a::fs,[],h,j,_=>rfl
 | a::fs,o::os,h,j,hn=>by
  simp only [List.mem_cons,not_or] at hn
  rw [updH,updH_other fs os _ j hn.2,List.getElem?_set_ne (by omega)]
theorem updH_comm:∀ (fs gs:List Nat) (os qs h:List AObj),(∀ x,x∈fs→x∉gs)→updH (updH h fs os) gs qs=updH (updH h gs qs) fs os
 | [],gs,os,qs,h,_=>by cases os <;> rfl
 | a::fs,gs,[],qs,h,_=>rfl
 | a::fs,gs,o::os,qs,h,hd=>by
  rw [updH,updH,updH_comm fs gs os qs _ (fun x hx=>hd x (List.mem_cons_of_mem _ hx))]
  congr 1
  have ha:a∉gs:=hd a List.mem_cons_self
  have one:∀ (gs:List Nat) (qs h:List AObj),a∉gs→updH (h.set a o) gs qs=(updH h gs qs).set a o:=by
   intro gs
   induction gs with
   | nil=>intro qs h _;cases qs <;> rfl
   | cons b gs ih =>
    intro qs h hn
    simp only [List.mem_cons,not_or] at hn
    cases qs with
    | nil=>rfl
    | cons q qs =>
     rw [updH,updH,List.set_comm _ _ hn.1]
     exact ih qs _ hn.2
  exact one gs qs h ha
section
variable {P:Program} {E:Env} {N:Nat} {ops:Array Oper}
theorem OpR_congr {o:Oper} {ρ ρ':Operand→AV} {h:List AObj} {R:AV→List AObj→Prop} (hc:∀ x,x∈o.op.operands.toList→ρ' x=ρ x) (H:OpR P E o ρ h R):OpR P E o ρ' h R :=
 fun G a w hw hr=>H G a w hw fun x hx=>by rw [← hc x hx];exact hr x hx
def SI (P:Program) (E:Env) (N:Nat) (ops:Array Oper) (rd wr:Nat→List Nat) (i:Nat) (o:Oper) (τ:Nat→AV) (h:List AObj) (v:AV) (os:List AObj):Prop :=
 ∀ k:List AObj,k.length=h.length→(∀ j,j∈rd i→k[j]?=h[j]?)→StepR P E N ops o τ k (fun a b=>a=v∧b=updH k (wr i) os)
theorem StepR_congr {o:Oper} {τ τ':Nat→AV} {h:List AObj} {R:AV→List AObj→Prop} (hc:∀ d,d∈o.looksAt ops→τ' d=τ d) (H:StepR P E N ops o τ h R):StepR P E N ops o τ' h R:=by
 obtain ⟨h1,h2⟩:=H
 have hop:∀ x,x∈o.op.operands.toList→ev τ' x=ev τ x:=by
  intro x hx
  cases x with
  | tmp t =>
   refine hc t ?_
   unfold Oper.looksAt
   exact List.mem_append.2 (.inl (List.mem_filterMap.2 ⟨.tmp t,hx,rfl⟩))
  | _=>rfl
 refine ⟨h1,?_⟩
 cases hg:o.guard with
 | none=>rw [hg] at h2;exact OpR_congr hop h2
 | some g =>
  obtain ⟨j,want⟩:=g
  rw [hg] at h2
  obtain ⟨d,ex,k1,k2,k3,k4,k5⟩:=h2
  have hd:τ' d=τ d:=hc d (by
   unfold Oper.looksAt
   rw [hg]
   exact List.mem_append.2 (.inr (by simp [k1])))
  exact ⟨d,ex,k1,k2,by rw [hd];exact k3,fun hb=>OpR_congr hop (k4 hb),k5⟩
theorem SI.congr {rd wr:Nat→List Nat} {i:Nat} {o:Oper} {τ τ':Nat→AV} {h h' os:List AObj} {v:AV} (hc:∀ d,d∈o.looksAt ops→τ' d=τ d) (hl:h'.length=h.length) (hh:∀ j,j∈rd i→h'[j]?=h[j]?)
  (H:SI P E N ops rd wr i o τ h v os):SI P E N ops rd wr i o τ' h' v os :=
 fun k h1 h2=>StepR_congr hc (H k (h1.trans hl) fun j hj=>(h2 j hj).trans (hh j hj))
theorem putA_other {τ:Nat→AV} {dst:Option Tmp} {v:AV} {d:Nat} (h:∀ e,dst=some e→e≠d):putA τ dst v d=τ d:=by
 cases dst with
 | none=>rfl
 | some e =>
  have:=h e rfl
  show (bif Nat.beq d e then v else τ d)=τ d
  have hb:Nat.beq d e=false:=by
   cases hb:Nat.beq d e with
   | false=>rfl
   | true=>exact absurd (Nat.eq_of_beq_eq_true hb).symm this
  rw [hb];rfl
theorem putA_comm {τ:Nat→AV} {x y:Option Tmp} {v u:AV} (h:∀ d,x=some d→y≠some d):putA (putA τ x v) y u=putA (putA τ y u) x v:=by
 funext t
 cases x with
 | none=>rfl
 | some a =>
  cases y with
  | none=>rfl
  | some b =>
   have hab:a≠b:=fun hh=>h a rfl (by rw [hh])
   show (bif Nat.beq t b then u else (bif Nat.beq t a then v else τ t))=(bif Nat.beq t a then v else (bif Nat.beq t b then u else τ t))
   cases hb:Nat.beq t b with
   | false=>rfl
   | true =>
    cases ha:Nat.beq t a with
    | false=>rfl
    | true=>exact absurd ((Nat.eq_of_beq_eq_true ha).symm.trans (Nat.eq_of_beq_eq_true hb)) hab
def stepI (P:Program) (E:Env) (N:Nat) (ops:Array Oper) (rd wr:Nat→List Nat) (i:Nat) (K:(Nat→AV)→List AObj→Prop) (τ:Nat→AV) (h:List AObj):Prop :=
 match ops[i]? with
 | none=>K τ h
 | some o=>∃ v os,SI P E N ops rd wr i o τ h v os∧K (putA τ o.dst v) (updH h (wr i) os)
def anyA (P:Program) (E:Env) (N:Nat) (ops:Array Oper) (rd wr:Nat→List Nat) (Q:(Nat→AV)→List AObj→Prop):Nat→Array Bool→(Nat→AV)→List AObj→Prop
 | 0,listed,τ,h=>Region.ready .any ops listed=[]∧Q τ h
 | fuel+1,listed,τ,h=>(Region.ready .any ops listed=[]→Q τ h)∧∀ i,i∈Region.ready .any ops listed→stepI P E N ops rd wr i (anyA P E N ops rd wr Q fuel (listed.setIfInBounds i true)) τ h
theorem anyA_sound {rd wr:Nat→List Nat} {Q:Exit→(Nat→AV)→List AObj→Prop}:∀ (fuel:Nat) (listed:Array Bool) (τ:Nat→AV) (h:List AObj) (a:Act) (w:World),anyA P E N ops rd wr (Q .normal) fuel listed τ h→Rel E N τ h a w →
  wpAny P .any ops (fun ex a' w'=>∃ τ' h',Q ex τ' h'∧Rel E N τ' h' a' w') fuel listed a w
 | 0,_,τ,h,_,_,H,hr=>⟨H.1,τ,h,H.2,hr⟩
 | fuel+1,listed,τ,h,a,w,H,hr=>by
  refine ⟨fun h0=>⟨τ,h,H.1 h0,hr⟩,fun i hi=>?_⟩
  have hs:=H.2 i hi
  unfold stepI at hs
  split at hs
  ·rename_i ho
   unfold wpOp
   simp only [ho]
   exact anyA_sound fuel _ τ h a w hs hr
  ·rename_i o ho
   obtain ⟨v,os,hsi,hk⟩:=hs
   exact step_sound ho (hsi h rfl fun _ _=>rfl) hr fun v' h'' a' w' ⟨h1,h2⟩ hrel=>by
    subst h1;subst h2
    exact anyA_sound fuel _ _ _ a' w' hk hrel
def meets (a b:List Nat):Bool:=a.any fun x=>b.contains x
def conf (rd wr:Nat→List Nat) (i j:Nat):Bool:=meets (wr i) (rd j)||meets (wr i) (wr j)||meets (wr j) (rd i)
theorem meets_not {a b:List Nat} (h:meets a b=false):∀ x,x∈a→x∉b:=by
 intro x hx hb
 unfold meets at h
 rw [List.any_eq_false] at h
 exact h x hx (by simpa using hb)
theorem anyA_first {rd wr:Nat→List Nat} {Q:(Nat→AV)→List AObj→Prop} {i:Nat} {oi:Oper} {v:AV} {osi:List AObj} (hi:ops[i]?=some oi):∀ (fuel:Nat) (listed:Array Bool) (τ:Nat→AV) (h:List AObj),
  (∀ j oj,ops[j]?=some oj→j≠i→listed.getD j true=false→(∀ e∈oj.after,Region.binds .any e=true→e.on≠i)→oi.apart ops oj=true∧conf rd wr i j=false) →
  i∈Region.ready .any ops listed→SI P E N ops rd wr i oi τ h v osi→anyA P E N ops rd wr Q fuel (listed.setIfInBounds i true) (putA τ oi.dst v) (updH h (wr i) osi)→anyA P E N ops rd wr Q (fuel+1) listed τ h:=by
 intro fuel
 have own:∀ (listed:Array Bool) (τ:Nat→AV) (h:List AObj) (K:(Nat→AV)→List AObj→Prop),SI P E N ops rd wr i oi τ h v osi→K (putA τ oi.dst v) (updH h (wr i) osi)→stepI P E N ops rd wr i K τ h:=by
  intro listed τ h K hs hk
  unfold stepI
  simp only [hi]
  exact ⟨v,osi,hs,hk⟩
 induction fuel with
 | zero =>
  intro listed τ h _ hr hy H
  refine ⟨fun h0=>(by rw [h0] at hr;cases hr),fun j hj=>?_⟩
  by_cases hji:j=i
  ·subst hji;exact own listed τ h _ hy H
  ·have:=ready_mono hj hji
   rw [H.1] at this
   cases this
 | succ fuel ih =>
  intro listed τ h hfree hr hy H
  refine ⟨fun h0=>(by rw [h0] at hr;cases hr),fun j hj=>?_⟩
  by_cases hji:j=i
  ·subst hji;exact own listed τ h _ hy H
  ·have hs:=H.2 j (ready_mono hj hji)
   obtain ⟨hjun,oj,hoj,hall⟩:=mem_ready.1 hj
   have hnot:∀ e∈oj.after,Region.binds .any e=true→e.on≠i:=fun e he hb heq=>by
    have h1:=hall e he hb
    have h0:=(mem_ready.1 hr).1
    rw [heq] at h1
    rcases Nat.lt_or_ge i listed.size with h' | h'
    ·simp [h'] at h0 h1;rw [h0] at h1;cases h1
    ·simp [Array.getElem?_eq_none h'] at h1
   obtain ⟨hap,hcf⟩:=hfree j oj hoj hji hjun hnot
   obtain ⟨a1,a2,a3⟩:=Oper.apart_spec hap
   simp only [conf,Bool.or_eq_false_iff] at hcf
   obtain ⟨⟨f1,f2⟩,f3⟩:=hcf
   have f1:=meets_not f1
   have f2:=meets_not f2
   have f3:=meets_not f3
   unfold stepI at hs ⊢
   simp only [hoj] at hs ⊢
   obtain ⟨vj,osj,hsj,hk⟩:=hs
   have cj:∀ d,d∈oj.looksAt ops→τ d=putA τ oi.dst v d:=fun d hd=>(putA_other fun e he hh=>a1 e he (hh▸hd)).symm
   have ci:∀ u d,d∈oi.looksAt ops→putA τ oj.dst u d=τ d:=fun u d hd=>putA_other fun e he hh=>a3 e he (hh▸hd)
   have hfree':∀ k ok,ops[k]?=some ok→k≠i→(listed.setIfInBounds j true).getD k true=false→(∀ e∈ok.after,Region.binds .any e=true→e.on≠i)→oi.apart ops ok=true∧conf rd wr i k=false:=fun k ok hk' hki hun hno=>by
    refine hfree k ok hk' hki ?_ hno
    by_cases hjk:j=k
    ·subst hjk;exact hjun
    ·rw [getD_set_ne true hjk] at hun;exact hun
   refine ⟨vj,osj,hsj.congr cj (by rw [qDi]) (fun x hx=>(updH_other _ _ _ _ (fun hw=>f1 x hw hx)).symm),ih _ _ _ hfree' (ready_mono hr (Ne.symm hji)) (hy.congr (ci vj) (by rw [qDi]) (fun x hx=>updH_other _ _ _ _ (fun hw=>f3 x hw hx))) ?_⟩
   rw [Array.setIfInBounds_comm _ _ hji,← putA_comm a2,← updH_comm _ _ _ _ _ f2]
   exact hk
def AWd (P:Program) (E:Env) (N:Nat) (ops:List Oper) (rd wr:Nat→List Nat) (Q:(Nat→AV)→List AObj→Prop):List Oper→Nat→(Nat→AV)→List AObj→Prop
 | [],_,τ,h=>Q τ h
 | o::rest,i,τ,h=>∃ v os,SI P E N ops.toArray rd wr i o τ h v os∧AWd P E N ops rd wr Q rest (i+1) (putA τ o.dst v) (updH h (wr i) os)
def freeD (ops:Array Oper) (rd wr:Nat→List Nat) (listed:Array Bool) (i:Nat):Bool :=
 match ops[i]? with
 | none=>false
 | some oi=>(List.range ops.size).all fun j=>j == i||listed.getD j true||match ops[j]? with
   | some oj=>oj.after.any (fun e=>Region.binds .any e&&e.on == i)||(oi.apart ops oj&&!conf rd wr i j)
   | none=>true
theorem freeD_spec {rd wr:Nat→List Nat} {i:Nat} {oi:Oper} {listed:Array Bool} (hi:ops[i]?=some oi) (h:freeD ops rd wr listed i=true) (j:Nat) (oj:Oper)
  (hj:ops[j]?=some oj) (hne:j≠i) (hun:listed.getD j true=false) (hno:∀ e∈oj.after,Region.binds .any e=true→e.on≠i):oi.apart ops oj=true∧conf rd wr i j=false:=by
 simp only [freeD,hi,List.all_eq_true,List.mem_range] at h
 have h1:=h j (Array.getElem?_eq_some_iff.1 hj).1
 simp only [hj,Bool.or_eq_true,beq_iff_eq,hne,false_or,hun,Bool.false_eq_true] at h1
 rcases h1 with h1 | h1
 ·obtain ⟨e,he,hb⟩:=Array.any_eq_true'.1 h1
  simp only [Bool.and_eq_true,beq_iff_eq] at hb
  exact absurd hb.2 (hno e he hb.1)
 ·simpa using h1
def lexD (ops:Array Oper) (rd wr:Nat→List Nat):Nat→Nat→Array Bool→Bool
 | 0,_,listed=>(Region.ready .any ops listed).isEmpty
 | fuel+1,k,listed=>(Region.ready .any ops listed).contains k&&freeD ops rd wr listed k&&lexD ops rd wr fuel (k+1) (listed.setIfInBounds k true)
theorem AWd_any {rd wr:Nat→List Nat} {ops:List Oper} {Q:(Nat→AV)→List AObj→Prop}:∀ (l:List Oper) (k:Nat) (listed:Array Bool) (τ:Nat→AV) (h:List AObj),(∀ j,l[j]?=ops[k+j]?) →
  lexD ops.toArray rd wr l.length k listed=true→AWd P E N ops rd wr Q l k τ h→anyA P E N ops.toArray rd wr Q l.length listed τ h
 | [],_,_,_,_,_,hB,H=>⟨by simpa [lexD] using hB,H⟩
 | o::l,k,listed,τ,h,hl,hB,H=>by
  have h0:ops.toArray[k]?=some o:=by simpa using (hl 0).symm
  simp only [List.length_cons,lexD,Bool.and_eq_true] at hB
  obtain ⟨⟨hr,hf⟩,hB'⟩:=hB
  obtain ⟨v,os,hs,hk⟩:=H
  exact anyA_first h0 l.length listed τ h (freeD_spec h0 hf) (by simpa using hr) hs
   (AWd_any l (k+1) _ _ _ (fun j=>by have:=hl (j+1);simpa [Nat.add_assoc,Nat.add_comm 1 j] using this) hB' hk)
theorem Rel.drew {τ:Nat→AV} {h:List AObj} {a:Act} {w:World} (hr:Rel E N τ h a w):Rel E N τ h a { w with drawn:=w.drawn+1 }:=by
 obtain ⟨h1,h2,G,hw,h3⟩:=hr
 refine ⟨h1,h2,G,⟨hw.le,hw.imm,hw.immNew,hw.keep,hw.size,hw.os,hw.tape,hw.output,hw.own,hw.fresh,fun i ob hi=>?_⟩,h3⟩
 exact (hw.obj i ob hi).keep (.refl G) (fun b _=>⟨rfl,fun _ _=>rfl⟩) (fun _ hn=>hn) (fun hn=>hn)
theorem qBg {id:Nat} (rd wr:Nat→List Nat) {ops:List Oper} {Q:Exit→(Nat→AV)→List AObj→Prop} {τ:Nat→AV} {h:List AObj} (hm:P.follows .mixedOrders=true)
  (hB:lexD ops.toArray rd wr ops.length 0 (Array.replicate ops.length false)=true) (H:AWd P E N ops rd wr (Q .normal) ops 0 τ h):AW P E N (.region id ops.toArray true) Q τ h:=by
 intro a w hr
 refine wp_region_any hm ?_
 have:=AWd_any (P:=P) (E:=E) (N:=N) ops 0 _ τ h (fun j=>by simp) hB H
 have:=anyA_sound (Q:=Q) _ _ _ _ a _ this hr.drew
 simpa using this
theorem AW_draw {id:Nat} {ops:List Oper} {Q:Exit→(Nat→AV)→List AObj→Prop} {τ:Nat→AV} {h:List AObj} (hm:P.follows .mixedOrders=true)
  (hB:lexD ops.toArray (fun _=>List.range h.length) (fun _=>[]) ops.length 0 (Array.replicate ops.length false)=true) (H:AWd P E N ops (fun _=>List.range h.length) (fun _=>[]) (Q .normal) ops 0 τ h):AW P E N (.region id ops.toArray true) Q τ h :=
 qBg _ _ hm hB H
theorem AWd_nil {rd wr:Nat→List Nat} {ops:List Oper} {Q:(Nat→AV)→List AObj→Prop} {i:Nat} {τ:Nat→AV} {h:List AObj} (hq:Q τ h):AWd P E N ops rd wr Q [] i τ h:=hq
theorem same_heap {h k:List AObj} (hl:k.length=h.length) (hh:∀ j,j∈List.range h.length→k[j]?=h[j]?):k=h:=by
 apply List.ext_getElem?
 intro j
 by_cases hj:j < h.length
 ·exact hh j (List.mem_range.2 hj)
 ·rw [List.getElem?_eq_none (by omega),List.getElem?_eq_none (by omega)]
theorem updH_nil (k os:List AObj):updH k [] os=k:=by cases os <;> rfl
theorem AWd_step {T:Tr} (hT:TOk P T) {n:Nat} {ops:List Oper} {Q:(Nat→AV)→List AObj→Prop} {i d:Nat} {op:Op} {ty:TypeId} {pos:String} {after:Array Edge} {rest:List Oper}
  {l:List (Nat×AV)} {h:List AObj} {v:AV} {C:Prop} (hs:astep T op (ev (look l)) h=some (v,h,C)) (hd:Nat.blt d N=true) (hn:h.length=n) (hC:C) (hk:AWd P E N ops (fun _=>List.range n) (fun _=>[]) Q rest (i+1) (look ((d,v)::l)) h) :
  AWd P E N ops (fun _=>List.range n) (fun _=>[]) Q (⟨some d,op,ty,pos,after,none⟩::rest) i (look l) h:=by
 subst hn
 refine ⟨v,[],fun k h1 h2=>?_,hk⟩
 have:k=h:=same_heap h1 h2
 subst this
 exact ⟨hd,qDa (astep_ok hT hs hC)⟩
theorem AWd_gstep {T:Tr} (hT:TOk P T) {n:Nat} {ops:List Oper} {Q:(Nat→AV)→List AObj→Prop} {i d:Nat} {op:Op} {ty:TypeId} {pos:String} {after:Array Edge} {j:Nat} {want:Bool} {rest:List Oper}
  {l:List (Nat×AV)} {h:List AObj} {v:AV} {C:Prop} {gd:Nat} {ex:Bool} (hg:gslot ops l j want=some (gd,ex)) (hs:astep T op (evG (look l) op) h=some (v,h,C)) (hd:Nat.blt d N=true) (hgd:Nat.blt gd N=true) (hn:h.length=n)
  (hC:ex=true→gAll (look l) (gOps op)∧C) (hk:AWd P E N ops (fun _=>List.range n) (fun _=>[]) Q rest (i+1) (look ((d,.gd ex v)::l)) h) :
  AWd P E N ops (fun _=>List.range n) (fun _=>[]) Q (⟨some d,op,ty,pos,after,some (j,want)⟩::rest) i (look l) h:=by
 subst hn
 refine ⟨_,[],fun k h1 h2=>?_,hk⟩
 have:k=h:=same_heap h1 h2
 subst this
 exact guard_ok rfl hg hd hgd (fun hb=>⟨(hC hb).1,astepU_ok (o:=⟨some d,op,ty,pos,after,some (j,want)⟩) hT hs (hC hb).2⟩)
theorem qAp {n:Nat} {ops:List Oper} {Q:(Nat→AV)→List AObj→Prop} {i d:Nat} {op:Op} {ty:TypeId} {pos:String} {after:Array Edge} {rest:List Oper}
  {l:List (Nat×AV)} {h:List AObj} {v:AV} (hs:OpS P E ⟨some d,op,ty,pos,after,none⟩ (ev (look l)) h v h) (hd:Nat.blt d N=true) (hn:h.length=n)
  (hk:AWd P E N ops (fun _=>List.range n) (fun _=>[]) Q rest (i+1) (look ((d,v)::l)) h):AWd P E N ops (fun _=>List.range n) (fun _=>[]) Q (⟨some d,op,ty,pos,after,none⟩::rest) i (look l) h:=by
 subst hn
 refine ⟨v,[],fun k h1 h2=>?_,hk⟩
 have:k=h:=same_heap h1 h2
 subst this
 exact ⟨hd,qDa hs⟩
theorem AWd_gop {n:Nat} {ops:List Oper} {Q:(Nat→AV)→List AObj→Prop} {i d:Nat} {op:Op} {ty:TypeId} {pos:String} {after:Array Edge} {j:Nat} {want:Bool} {rest:List Oper}
  {l:List (Nat×AV)} {h:List AObj} {v:AV} {gd:Nat} {ex:Bool} (hg:gslot ops l j want=some (gd,ex)) (hd:Nat.blt d N=true) (hgd:Nat.blt gd N=true) (hn:h.length=n)
  (hC:ex=true→gAll (look l) (gOps op)∧OpS P E ⟨some d,op,ty,pos,after,some (j,want)⟩ (evG (look l) op) h v h) (hk:AWd P E N ops (fun _=>List.range n) (fun _=>[]) Q rest (i+1) (look ((d,.gd ex v)::l)) h) :
  AWd P E N ops (fun _=>List.range n) (fun _=>[]) Q (⟨some d,op,ty,pos,after,some (j,want)⟩::rest) i (look l) h:=by
 subst hn
 refine ⟨_,[],fun k h1 h2=>?_,hk⟩
 have:k=h:=same_heap h1 h2
 subst this
 exact guard_ok rfl hg hd hgd hC
theorem AWg_pure {T:Tr} (hT:TOk P T) {rd wr:Nat→List Nat} {ops:List Oper} {Q:(Nat→AV)→List AObj→Prop} {i:Nat} {dst:Option Tmp} {op:Op} {ty:TypeId} {pos:String} {after:Array Edge} {rest:List Oper}
  {l:List (Nat×AV)} {h:List AObj} {v:AV} {C:Prop} (hs:∀ k,astep T op (ev (look l)) k=some (v,k,C)) (hd:dstOk N ⟨dst,op,ty,pos,after,none⟩=true) (hw:wr i=[]) (hC:C) (hk:AWd P E N ops rd wr Q rest (i+1) (look (putL l dst v)) h) :
  AWd P E N ops rd wr Q (⟨dst,op,ty,pos,after,none⟩::rest) i (look l) h:=by
 refine ⟨v,[],fun k h1 h2=>?_,by rw [hw,updH_nil,← look_putL];exact hk⟩
 rw [hw]
 simp only [updH_nil]
 exact ⟨hd,qDa (astep_ok hT (hs k) hC)⟩
def storeF (T:Tr) (t:Nat) (cells:List AV) (off:Nat) (x:AV):Option (List AV):=forceV x fun x=>match storeA T t cells off x with
 | some c=>forceS c some
 | none=>none
theorem storeF_eq (T:Tr) (t:Nat) (cells:List AV) (off:Nat) (x:AV):storeF T t cells off x=storeA T t cells off x:=by
 unfold storeF;rw [qDe];split
 ·rename_i h;rw [qDf,h]
 ·rename_i h;rw [h]
def loadF (T:Tr) (t:Nat) (cells:List AV) (off:Nat):Option AV:=match loadA T t cells off with
 | some v=>forceV v some
 | none=>none
theorem loadF_eq (T:Tr) (t:Nat) (cells:List AV) (off:Nat):loadF T t cells off=loadA T t cells off:=by
 unfold loadF;split
 ·rename_i h;rw [qDe,h]
 ·rename_i h;rw [h]
theorem AWg_load {T:Tr} (hT:TOk P T) {rd wr:Nat→List Nat} {ops:List Oper} {Q:(Nat→AV)→List AObj→Prop} {i d t j off:Nat} {x:Operand} {ty:TypeId} {pos:String} {after:Array Edge} {rest:List Oper} {cells:List AV}
  {l:List (Nat×AV)} {h:List AObj} {v:AV} (hx:ev (look l) x=.ptr j off) (hj:h[j]?=some (.row cells)) (hv:loadF T t cells off=some v) (hd:Nat.blt d N=true) (hr:j∈rd i) (hw:wr i=[])
  (hk:AWd P E N ops rd wr Q rest (i+1) (look ((d,v)::l)) h):AWd P E N ops rd wr Q (⟨some d,.load t x,ty,pos,after,none⟩::rest) i (look l) h:=by
 refine ⟨v,[],fun k h1 h2=>?_,by rw [hw,updH_nil];exact hk⟩
 rw [hw]
 simp only [updH_nil]
 rw [loadF_eq] at hv
 exact ⟨hd,qDa (qDj hT rfl hx ((h2 j hr).trans hj) hv)⟩
theorem AWg_store {T:Tr} (hT:TOk P T) {rd wr:Nat→List Nat} {ops:List Oper} {Q:(Nat→AV)→List AObj→Prop} {i t j off:Nat} {x y:Operand} {ty:TypeId} {pos:String} {after:Array Edge} {rest:List Oper} {cells cells':List AV}
  {l:List (Nat×AV)} {h:List AObj} (hx:ev (look l) x=.ptr j off) (hj:h[j]?=some (.row cells)) (hv:storeF T t cells off (ev (look l) y)=some cells') (hr:j∈rd i) (hw:wr i=[j])
  (hk:AWd P E N ops rd wr Q rest (i+1) (look l) (h.set j (.row cells'))):AWd P E N ops rd wr Q (⟨none,.store t x y,ty,pos,after,none⟩::rest) i (look l) h:=by
 refine ⟨.any,[.row cells'],fun k h1 h2=>?_,by rw [hw];exact hk⟩
 rw [hw]
 rw [storeF_eq] at hv
 exact ⟨rfl,qDa (store_ok hT rfl hx ((h2 j hr).trans hj) hv)⟩
theorem qAs {rd wr:Nat→List Nat} {ops:List Oper} {Q:(Nat→AV)→List AObj→Prop} {i:Nat} {dst:Option Tmp} {op:Op} {ty:TypeId} {pos:String} {after:Array Edge} {rest:List Oper}
  {l:List (Nat×AV)} {h os:List AObj} {v:AV} (hs:∀ k:List AObj,k.length=h.length→(∀ j,j∈rd i→k[j]?=h[j]?)→OpS P E ⟨dst,op,ty,pos,after,none⟩ (ev (look l)) k v (updH k (wr i) os)) (hd:dstOk N ⟨dst,op,ty,pos,after,none⟩=true)
  (hk:AWd P E N ops rd wr Q rest (i+1) (look (putL l dst v)) (updH h (wr i) os)):AWd P E N ops rd wr Q (⟨dst,op,ty,pos,after,none⟩::rest) i (look l) h :=
 ⟨v,os,fun k h1 h2=>⟨hd,qDa (hs k h1 h2)⟩,by rw [← look_putL];exact hk⟩
end
end Tdoc
namespace Tdoc
open Go
def renT (f:Nat→Nat):Tok→Tok
 | .right i=>.right (f i)
 | t=>t
mutual
def ren (f:Nat→Nat):AV→AV
 | .d x=>.d x
 | .sl sz es tok=>.sl sz es (renT f tok)
 | .nils=>.nils
 | .ptr i off=>.ptr (f i) off
 | .iptr cs=>.iptr cs
 | .nilp=>.nilp
 | .row i off n cap=>.row (f i) off n cap
 | .bm i n=>.bm (f i) n
 | .bp i n m=>.bp (f i) n m
 | .fn g a b=>.fn g (renL f a) (renL f b)
 | .nilf=>.nilf
 | .mp i=>.mp (f i)
 | .rx i off n=>.rx (f i) off n
 | .ifc b=>.ifc b
 | .agg cs=>.agg (renL f cs)
 | .tup vs=>.tup (renL f vs)
 | .gd b v=>.gd b (ren f v)
 | .any=>.any
def renL (f:Nat→Nat):List AV→List AV
 | []=>[]
 | a::l=>ren f a::renL f l
end
def lowT (k:Nat):Tok→Bool
 | .right i=>Nat.blt i k
 | _=>true
mutual
def low (k:Nat):AV→Bool
 | .d _=>true
 | .sl _ _ tok=>lowT k tok
 | .nils=>true
 | .ptr i _=>Nat.blt i k
 | .iptr _=>true
 | .nilp=>true
 | .row i _ _ _=>Nat.blt i k
 | .bm i _=>Nat.blt i k
 | .bp i _ _=>Nat.blt i k
 | .fn _ a b=>lowL k a&&lowL k b
 | .nilf=>true
 | .mp i=>Nat.blt i k
 | .rx i _ _=>Nat.blt i k
 | .ifc _=>true
 | .agg cs=>lowL k cs
 | .tup vs=>lowL k vs
 | .gd _ v=>low k v
 | .any=>true
def lowL (k:Nat):List AV→Bool
 | []=>true
 | a::l=>low k a&&lowL k l
end
theorem renL_at (f:Nat→Nat):∀ (l:List AV) (j:Nat),(renL f l)[j]?=(l[j]?).map (ren f)
 | [],j=>by simp [renL]
 | a::l,0=>by simp [renL]
 | a::l,j+1=>by simpa [renL] using renL_at f l j
theorem qCd (f:Nat→Nat):∀ (l:List AV),(renL f l).length=l.length
 | []=>rfl
 | a::l=>by simp [renL,qCd f l]
theorem qDc {k:Nat}:∀ {l:List AV} {j:Nat} {x:AV},lowL k l=true→l[j]?=some x→low k x=true
 | [],j,x,_,h=>by simp at h
 | a::l,0,x,h,hx=>by simp at hx;subst hx;simp [lowL] at h;exact h.1
 | a::l,j+1,x,h,hx=>by simp [lowL] at h;exact qDc h.2 (by simpa using hx)
def renO (f:Nat→Nat):AObj→AObj
 | .row cells=>.row (renL f cells)
 | .buf sz n cells=>.buf sz n (renL f cells)
 | .right sz n=>.right sz n
 | .dead=>.dead
 | .room=>.room
 | .opq R=>.opq R
def lowO (k:Nat):AObj→Bool
 | .row cells=>lowL k cells
 | .buf _ _ cells=>lowL k cells
 | _=>true
def lowH (k:Nat):List AObj→Bool
 | []=>true
 | o::l=>lowO k o&&lowH k l
theorem lowH_at {k:Nat}:∀ {l:List AObj} {j:Nat} {x:AObj},lowH k l=true→l[j]?=some x→lowO k x=true
 | [],j,x,_,h=>by simp at h
 | a::l,0,x,h,hx=>by simp at hx;subst hx;simp [lowH] at h;exact h.1
 | a::l,j+1,x,h,hx=>by simp [lowH] at h;exact lowH_at h.2 (by simpa using hx)
structure Alike (k:Nat) (f:Nat→Nat) (G G':Gh):Prop where
 imm:∀ a v,G.imm a=some v→G'.imm a=some v
 loc:∀ i b,i < k→G.loc i=some b→G'.loc (f i)=some b
 rt:∀ i n x,i < k→G.rt i n=some x→G'.rt (f i) n=some x
theorem qBo {a b:Nat} (h:Nat.blt a b=true):a < b:=Nat.le_of_ble_eq_true h
theorem RepA.alike {k:Nat} {f:Nat→Nat} {G G':Gh} (ha:Alike k f G G') {x:AV} {v:Value} (h:RepA G x v):low k x=true→RepA G' (ren f x) v:=by
 induction h with
 | d r=>intro _;exact .d (r.mono ha.imm)
 | @sl sz es tok v r t =>
  intro hl
  refine .sl (r.mono ha.imm) ?_
  cases tok with
  | none=>trivial
  | full=>exact t
  | right i =>
   obtain ⟨a,cap,hv,hr⟩:=t
   exact ⟨a,cap,hv,ha.rt _ _ _ (qBo hl) hr⟩
 | nils=>intro _;exact .nils
 | ptr off hl=>intro h;exact .ptr off (ha.loc _ _ (qBo h) hl)
 | iptr a vs h1 h2 h3=>intro _;exact .iptr a vs h1 (fun j d hd=>ha.imm _ _ (h2 j d hd)) (fun j d hd=>(h3 j d hd).mono ha.imm)
 | nilp=>intro _;exact .nilp
 | row off n cap hl=>intro h;exact .row off n cap (ha.loc _ _ (qBo h) hl)
 | bm a cap hr hz=>intro h;exact .bm a cap (ha.rt _ _ _ (qBo h) hr) hz
 | bp p cap k hr=>intro h;exact .bp p cap k (ha.rt _ _ _ (qBo h) hr)
 | fn g fs cs h1 h2 _ _ ih1 ih2 =>
  intro hl
  simp only [low,Bool.and_eq_true] at hl
  refine .fn g fs cs (by rw [qCd];exact h1) (by rw [qCd];exact h2) (fun j x v hx hv=>?_) (fun j x v hx hv=>?_)
  ·rw [renL_at,Option.map_eq_some_iff] at hx
   obtain ⟨y,hy,rfl⟩:=hx
   exact ih1 j y v hy hv (qDc hl.1 hy)
  ·rw [renL_at,Option.map_eq_some_iff] at hx
   obtain ⟨y,hy,rfl⟩:=hx
   exact ih2 j y v hy hv (qDc hl.2 hy)
 | nilf=>intro _;exact .nilf
 | mp hl=>intro h;exact .mp (ha.loc _ _ (qBo h) hl)
 | rx off cap hl h1 h2=>intro h;exact .rx off cap (ha.loc _ _ (qBo h) hl) h1 h2
 | ifc h=>intro _;exact .ifc h
 | agg vs h1 _ h3 ih =>
  intro hl
  refine .agg vs (by rw [qCd];exact h1) (fun j x v hx hv=>?_) h3
  rw [renL_at,Option.map_eq_some_iff] at hx
  obtain ⟨y,hy,rfl⟩:=hx
  exact ih j y v hy hv (qDc hl hy)
 | tup vs h1 _ ih =>
  intro hl
  refine .tup vs (by rw [qCd];exact h1) (fun j x v hx hv=>?_)
  rw [renL_at,Option.map_eq_some_iff] at hx
  obtain ⟨y,hy,rfl⟩:=hx
  exact ih j y v hy hv (qDc hl hy)
 | gd _ hu ih=>intro hl;exact .gd (fun hb=>ih hb hl) hu
 | any v=>intro _;exact .any v
mutual
theorem ren_id (f:Nat→Nat) (hf:∀ i,f i=i):∀ (x:AV),ren f x=x
 | .d x=>rfl
 | .sl sz es tok=>by cases tok <;> simp [ren,renT,hf]
 | .nils=>rfl
 | .ptr i off=>by simp [ren,hf]
 | .iptr cs=>rfl
 | .nilp=>rfl
 | .row i off n cap=>by simp [ren,hf]
 | .bm i n=>by simp [ren,hf]
 | .bp i n m=>by simp [ren,hf]
 | .fn g a b=>by simp [ren,renL_id f hf a,renL_id f hf b]
 | .nilf=>rfl
 | .mp i=>by simp [ren,hf]
 | .rx i off n=>by simp [ren,hf]
 | .ifc _=>rfl
 | .agg cs=>by simp [ren,renL_id f hf cs]
 | .tup vs=>by simp [ren,renL_id f hf vs]
 | .gd b v=>by simp [ren,ren_id f hf v]
 | .any=>rfl
theorem renL_id (f:Nat→Nat) (hf:∀ i,f i=i):∀ (l:List AV),renL f l=l
 | []=>rfl
 | a::l=>by simp [renL,ren_id f hf a,renL_id f hf l]
end
structure Back (k:Nat) (f:Nat→Nat) (G G':Gh):Prop where
 imm:∀ a v,G'.imm a=some v→G.imm a=some v
 loc:∀ i b,i < k→G'.loc (f i)=some b→G.loc i=some b
 rt:∀ i n x,i < k→G'.rt (f i) n=some x→G.rt i n=some x
theorem RepA.back {k:Nat} {f:Nat→Nat} {G G':Gh} (hb:Back k f G G') {y:AV} {v:Value} (h:RepA G' y v):∀ x,y=ren f x→low k x=true→RepA G x v:=by
 induction h with
 | d r=>intro x hx hl;cases x <;> simp [ren] at hx;subst hx;exact .d (r.mono hb.imm)
 | @sl sz es tok v r t =>
  intro x hx hl
  cases x <;> simp [ren] at hx
  obtain ⟨rfl,rfl,rfl⟩:=hx
  rename_i tok'
  refine .sl (r.mono hb.imm) ?_
  cases tok' with
  | none=>trivial
  | full=>exact t
  | right i =>
   obtain ⟨a,cap,hv,hr⟩:=t
   exact ⟨a,cap,hv,hb.rt _ _ _ (qBo hl) hr⟩
 | nils=>intro x hx hl;cases x <;> simp [ren] at hx;exact .nils
 | ptr off hloc=>intro x hx hl;cases x <;> simp [ren] at hx;obtain ⟨rfl,rfl⟩:=hx;exact .ptr _ (hb.loc _ _ (qBo hl) hloc)
 | iptr a vs h1 h2 h3=>intro x hx hl;cases x <;> simp [ren] at hx;subst hx;exact .iptr a vs h1 (fun j d hd=>hb.imm _ _ (h2 j d hd)) (fun j d hd=>(h3 j d hd).mono hb.imm)
 | nilp=>intro x hx hl;cases x <;> simp [ren] at hx;exact .nilp
 | row off n cap hloc=>intro x hx hl;cases x <;> simp [ren] at hx;obtain ⟨rfl,rfl,rfl,rfl⟩:=hx;exact .row _ _ _ (hb.loc _ _ (qBo hl) hloc)
 | bm a cap hr hz=>intro x hx hl;cases x <;> simp [ren] at hx;obtain ⟨rfl,rfl⟩:=hx;exact .bm _ _ (hb.rt _ _ _ (qBo hl) hr) hz
 | bp p cap k hr=>intro x hx hl;cases x <;> simp [ren] at hx;obtain ⟨rfl,rfl,rfl⟩:=hx;exact .bp _ _ _ (hb.rt _ _ _ (qBo hl) hr)
 | fn g fs cs h1 h2 _ _ ih1 ih2 =>
  intro x hx hl
  cases x <;> simp [ren] at hx
  obtain ⟨rfl,rfl,rfl⟩:=hx
  simp only [low,Bool.and_eq_true] at hl
  rw [qCd] at h1 h2
  refine .fn _ fs cs h1 h2 (fun j x v hx hv=>?_) (fun j x v hx hv=>?_)
  ·exact ih1 j (ren f x) v (by rw [renL_at,hx];rfl) hv x rfl (qDc hl.1 hx)
  ·exact ih2 j (ren f x) v (by rw [renL_at,hx];rfl) hv x rfl (qDc hl.2 hx)
 | nilf=>intro x hx hl;cases x <;> simp [ren] at hx;exact .nilf
 | mp hl0=>intro x hx hl;cases x <;> simp [ren] at hx;subst hx;exact .mp (hb.loc _ _ (qBo hl) hl0)
 | rx off cap hloc h1 h2=>intro x hx hl;cases x <;> simp [ren] at hx;obtain ⟨rfl,rfl,rfl⟩:=hx;exact .rx _ _ (hb.loc _ _ (qBo hl) hloc) h1 h2
 | ifc h=>intro x hx hl;cases x <;> simp [ren] at hx;subst hx;exact .ifc h
 | agg vs h1 _ h3 ih =>
  intro x hx hl
  cases x <;> simp [ren] at hx
  subst hx
  rw [qCd] at h1
  exact .agg vs h1 (fun j x v hx hv=>ih j (ren f x) v (by rw [renL_at,hx];rfl) hv x rfl (qDc hl hx)) h3
 | tup vs h1 _ ih =>
  intro x hx hl
  cases x <;> simp [ren] at hx
  subst hx
  rw [qCd] at h1
  exact .tup vs h1 (fun j x v hx hv=>ih j (ren f x) v (by rw [renL_at,hx];rfl) hv x rfl (qDc hl hx))
 | gd _ hu ih=>intro x hx hl;cases x <;> simp [ren] at hx;obtain ⟨rfl,rfl⟩:=hx;exact .gd (fun hb'=>ih hb' _ rfl hl) hu
 | any v=>intro x hx hl;cases x <;> simp [ren] at hx;exact .any v
def Spec (P:Program) (f:FuncId) (args:List AV) (h:List AObj) (Q:AV→List AObj→Prop):Prop :=
 (∃ fn,P.funcs[f]?=some fn∧(fn.name == "runtime.NumGoroutine")=false∧fn.body.isNone=false) ∧
 ∀ (G:Gh) (w:World) (vals:Array Value),vals.size=args.length→(∀ (j:Nat) (x:AV) (v:Value),args[j]?=some x→vals[j]?=some v→RepA G x v) →
  ∀ htab:TabOk w G,WRel ⟨w,G,htab,[]⟩ G h w→Calls P f vals w (fun e w'=>∃ v r h' G',e=.returned v∧Q r h'∧h'.length=h.length∧low h.length r=true∧lowH h.length h'=true∧RepA G' r v∧WRel ⟨w,G,htab,[]⟩ G' h' w')
theorem Spec.mono {P:Program} {f:FuncId} {args:List AV} {h:List AObj} {Q Q':AV→List AObj→Prop} (H:Spec P f args h Q) (hq:∀ r h',Q r h'→Q' r h'):Spec P f args h Q' :=
 ⟨H.1,fun G w vals h1 h2 ht h3=>(H.2 G w vals h1 h2 ht h3).mono fun e w' ⟨v,r,h',G',k1,k2,k3⟩=>⟨v,r,h',G',k1,hq _ _ k2,k3⟩⟩
def pars:List AV→Nat→List (Nat×AV)
 | [],_=>[]
 | a::l,k=>(k,a)::pars l (k+1)
theorem look_pars:∀ (l:List AV) (k t:Nat),look (pars l k) t=if k≤t∧t < k+l.length then (l[t-k]?).getD .any else .any
 | [],k,t=>by simp [pars,look]
 | a::l,k,t=>by
  unfold pars look
  cases hb:Nat.beq t k with
  | true =>
   obtain rfl:=Nat.eq_of_beq_eq_true hb
   simp
  | false =>
   have hne:t≠k:=fun hh=>by subst hh;rw [Nat.beq_refl] at hb;cases hb
   show look (pars l (k+1)) t=_
   rw [look_pars l (k+1) t]
   simp only [List.length_cons]
   by_cases h1:k+1≤t∧t < k+1+l.length
   ·rw [if_pos h1,if_pos (by omega)]
    rw [show t-k=(t-(k+1))+1 by omega];simp
   ·rw [if_neg h1,if_neg (by omega)]
def resOne (T:Tr) (τ:Nat→AV) (h:List AObj):ResultVar→Option AV
 | .tmp t=>some (τ t)
 | .cell a t=>match τ a with
  | .ptr i off=>match h[i]? with
   | some (.row cells)=>loadF T t cells off
   | _=>none
  | _=>none
def resAll (T:Tr) (τ:Nat→AV) (h:List AObj):List ResultVar→Option (List AV)
 | []=>some []
 | x::l=>match resOne T τ h x with
  | some v=>match resAll T τ h l with
   | some r=>some (v::r)
   | none=>none
  | none=>none
def resA (T:Tr) (τ:Nat→AV) (h:List AObj) (l:List ResultVar):Option AV:=match resAll T τ h l with
 | some [v]=>some v
 | some vs=>some (.tup vs)
 | none=>none
section
variable {P:Program} {T:Tr}
theorem resOne_run (hT:TOk P T) {E:Env} {G:Gh} {h:List AObj} {w:World} {τ:Nat→AV} {tmps:Array Value} (hw:WRel E G h w) (ht:∀ t,RepA G (τ t) (tmps.getD t undef)) {x:ResultVar} {v:AV} (hx:resOne T τ h x=some v) :
  ∃ u,(match x with | .tmp t=>pure (tmps.getD t undef) | .cell a t=>do loadVar t (← asAddr (tmps.getD a undef)):Sem Value).run P w=.ok u w∧RepA G v u:=by
 cases x with
 | tmp t=>simp only [resOne,Option.some.injEq] at hx;subst hx;exact ⟨_,rfl,ht t⟩
 | cell a t =>
  simp only [resOne] at hx
  split at hx
  ·rename_i i off hp
   split at hx
   ·rename_i cells hi
    rw [loadF_eq] at hx
    have hpa:=ht a
    rw [hp] at hpa
    obtain ⟨b,hb,hl⟩:=hpa.ptr_inv
    have hop:=qDj (E:=E) (h:=h) hT (o:=⟨none,.load t (.tmp a),0, "",#[],none⟩) (ρ:=ev τ) (i:=i) (off:=off) rfl hp hi hx
    have:=hop G ⟨tmps,[]⟩ w hw (fun y hy=>eval_rep (a:=⟨tmps,[]⟩) (E.tab.1.mono hw.le.imm) ht y)
    unfold Oper.wp execOp at this
    simp only [Instr.loadAt,Sem.run_bind,Act.eval,hb,Instr.sureAddr,Sem.run_pure,Result.andThen_ok] at this
    simp only [hb,asAddr,Sem.run_bind,Sem.run_pure,Result.andThen_ok]
    obtain ⟨b',hl',hown,hrow,himm⟩:=hw.obj i _ hi
    rw [hl] at hl';cases hl'
    unfold loadA at hx
    split at hx
    ·rename_i ti hf
     have hti:=hT.at hf
     split at hx
     ·rename_i hagg
      split at hx
      ·rename_i hble
       have hle:=Nat.le_of_ble_eq_true hble
       cases hx
       have hcell:∀ j,j < ti.size→∃ u,w.cell? ⟨b,off+j,none⟩=some u∧oneC u=true∧RepA G (cells[off+j]?.getD .any) u:=by
        intro j hj
        have hc:cells[off+j]?=some cells[off+j]:=by simp [show off+j < cells.length by omega]
        obtain ⟨u,h1,h2,h3,_⟩:=hrow _ _ hc
        exact ⟨u,h1,h2,by rw [hc];exact h3⟩
       let f:Nat→Value:=fun j=>(w.cell? ⟨b,off+j,none⟩).getD undef
       have hld:(loadCells ⟨b,off,none⟩ ti.size).run P w=.ok ((List.range ti.size).map f).toArray w:=by
        refine run_loadCells (P:=P) w _ _ f (fun j hj=>?_)
        obtain ⟨u,h1,_⟩:=hcell j hj
        rw [qDb];simp [f,h1]
       refine ⟨.agg ((List.range ti.size).map f).toArray,by simp [loadVar,hti.run_agg,hagg,hti.run_size,hld],.agg _ (by simp;omega) (fun j c y hc hy=>?_) (fun j y hy=>?_)⟩
       ·simp only [List.getElem?_take,List.getElem?_drop] at hc
        split at hc
        ·rename_i hj
         obtain ⟨u,h1,h2,h3⟩:=hcell j hj
         simp [hj,f,h1] at hy
         subst hy
         rw [hc] at h3;exact h3
        ·cases hc
       ·by_cases hj:j < ti.size
        ·obtain ⟨u,h1,h2,h3⟩:=hcell j hj
         simp [hj,f,h1] at hy
         subst hy;exact h2
        ·simp [hj] at hy
      ·cases hx
     ·rename_i hagg
      obtain ⟨u,h1,h2,h3,_⟩:=hrow _ _ hx
      exact ⟨u,by simp [loadVar,hti.run_agg,hagg,h1],h3⟩
    ·cases hx
   ·cases hx
  ·cases hx
theorem resAll_run (hT:TOk P T) {E:Env} {G:Gh} {h:List AObj} {w:World} {τ:Nat→AV} {tmps:Array Value} (hw:WRel E G h w) (ht:∀ t,RepA G (τ t) (tmps.getD t undef)):∀ {l:List ResultVar} {vs:List AV},resAll T τ h l=some vs →
  ∃ us:List Value,(l.mapM (fun x=>(match x with | .tmp t=>pure (tmps.getD t undef) | .cell a t=>do loadVar t (← asAddr (tmps.getD a undef)):Sem Value))).run P w=.ok us w∧us.length=vs.length ∧
   ∀ (j:Nat) (x:AV) (u:Value),vs[j]?=some x→us[j]?=some u→RepA G x u
 | [],vs,h=>by simp [resAll] at h;subst h;exact ⟨[],by simp,rfl,fun j x u h=>by simp at h⟩
 | x::l,vs,hv=>by
  unfold resAll at hv
  split at hv
  ·rename_i v hx
   split at hv
   ·rename_i r hr
    cases hv
    obtain ⟨u,hu,hru⟩:=resOne_run hT hw ht hx
    obtain ⟨us,h1,h2,h3⟩:=resAll_run hT hw ht hr
    refine ⟨u::us,?_,by simp [h2],fun j y z hy hz=>?_⟩
    ·simp only [List.mapM_cons,Sem.run_bind,hu,Result.andThen_ok,h1,Sem.run_pure]
    ·cases j with
     | zero=>simp at hy hz;subst hy;subst hz;exact hru
     | succ j=>exact h3 j y z (by simpa using hy) (by simpa using hz)
   ·cases hv
  ·cases hv
theorem resA_run (hT:TOk P T) {E:Env} {G:Gh} {h:List AObj} {w:World} {τ:Nat→AV} {tmps:Array Value} (hw:WRel E G h w) (ht:∀ t,RepA G (τ t) (tmps.getD t undef)) {fn:Func} {l:List ResultVar} (hfn:fn.results=l.toArray) {v:AV} (hv:resA T τ h l=some v) :
  ∃ u,(results fn tmps).run P w=.ok u w∧RepA G v u:=by
 unfold resA at hv
 split at hv
 ·rename_i v0 hr
  cases hv
  obtain ⟨us,h1,h2,h3⟩:=resAll_run hT hw ht hr
  obtain ⟨u,rfl⟩:∃ u,us=[u]:=by
   cases us with
   | nil=>simp at h2
   | cons u r=>cases r with
    | nil=>exact ⟨u,rfl⟩
    | cons _ _=>simp at h2
  refine ⟨u,?_,h3 0 v u rfl rfl⟩
  unfold results
  rw [hfn,List.mapM_toArray]
  simp only [Sem.run_bind,Sem.run_map]
  erw [h1]
  simp
 ·rename_i vs hne hr
  cases hv
  obtain ⟨us,h1,h2,h3⟩:=resAll_run hT hw ht hr
  have hlen:us.length≠1:=by
   intro hh
   rw [h2] at hh
   obtain ⟨v0,rfl⟩:=List.length_eq_one_iff.1 hh
   exact hne v0 rfl
  refine ⟨.tuple us.toArray,?_,.tup _ (by simp [h2]) (fun j x u hx hu=>h3 j x u hx (by simpa using hu))⟩
  unfold results
  rw [hfn,List.mapM_toArray]
  simp only [Sem.run_bind,Sem.run_map]
  erw [h1]
  simp [hlen]
 ·cases hv
end
end Tdoc
namespace Tdoc
open Go
def cutG (k:Nat) (G:Gh):Gh :=
 { G with loc:=fun i=>if i < k then G.loc i else none,rt:=fun i n=>if i < k then G.rt i n else none }
theorem cut_alike (k:Nat) (G:Gh):Alike k (fun i=>i) G (cutG k G) :=
 ⟨fun _ _ h=>h,fun i b hi h=>by show (if i < k then G.loc i else none)=some b;rw [if_pos hi];exact h,fun i n x hi h=>by show (if i < k then G.rt i n else none)=some x;rw [if_pos hi];exact h⟩
theorem RepA.cut {k:Nat} {G:Gh} {x:AV} {v:Value} (h:RepA G x v) (hl:low k x=true):RepA (cutG k G) x v:=by
 have:=h.alike (cut_alike k G) hl
 rwa [ren_id _ (fun _=>rfl)] at this
def Env.below (E:Env) (k:Nat):Prop:=∀ i,k≤i→E.G0.loc i=none∧∀ n,E.G0.rt i n=none
theorem WRel.cut {E:Env} {G:Gh} {h h':List AObj} {w:World} {k:Nat} (hw:WRel E G h w) (hk:E.below k) (hlen:h'.length=k) (hp:∀ i,i < k→h'[i]?=h[i]?) (hl:lowH k h'=true):WRel E (cutG k G) h' w:=by
 refine ⟨⟨hw.le.imm,fun i b hb=>?_,fun i n x hx=>?_,hw.le.own⟩,hw.imm,hw.immNew,hw.keep,hw.size,hw.os,hw.tape,hw.output,hw.own,fun i hi=>?_,fun i ob hi=>?_⟩
 ·show (if i < k then G.loc i else none)=some b
  by_cases hik:i < k
  ·rw [if_pos hik];exact hw.le.loc _ _ hb
  ·rw [(hk i (by omega)).1] at hb;cases hb
 ·show (if i < k then G.rt i n else none)=some x
  by_cases hik:i < k
  ·rw [if_pos hik];exact hw.le.rt _ _ _ hx
  ·rw [(hk i (by omega)).2 n] at hx;cases hx
 ·rw [hlen] at hi
  exact ⟨by show (if i < k then G.loc i else none)=none;rw [if_neg (by omega)],fun n=>by show (if i < k then G.rt i n else none)=none;rw [if_neg (by omega)]⟩
 ·have hik:i < k:=by rw [← hlen];exact (List.getElem?_eq_some_iff.1 hi).1
  have hlo:=lowH_at hl hi
  rw [hp i hik] at hi
  have hob:=hw.obj i ob hi
  cases ob with
  | dead=>trivial
  | room=>exact ⟨by show (if i < k then G.loc i else none)=none;rw [if_pos hik];exact hob.1,fun n=>by show (if i < k then G.rt i n else none)=none;rw [if_pos hik];exact hob.2 n⟩
  | opq R =>
   obtain ⟨b,S,h1,h2,h3,h4,h5,h6⟩:=hob
   exact ⟨b,S,(cut_alike k G).loc i b hik h1,h2,fun n=>by show (if i < k then G.rt i n else none)=none;rw [if_pos hik];exact h3 n,h4,h5,h6⟩
  | row cells =>
   obtain ⟨b,h1,h2,h3,h4⟩:=hob
   refine ⟨b,(cut_alike k G).loc i b hik h1,h2,fun j c hj=>?_,h4.1,fun n=>by show (if i < k then G.rt i n else none)=none;rw [if_pos hik];exact h4.2 n⟩
   obtain ⟨v,q1,q2,q3,q4⟩:=h3 j c hj
   exact ⟨v,q1,q2,q3.cut (qDc hlo hj),q4⟩
  | buf sz n cells =>
   obtain ⟨a,cap,h1,h2,h3⟩:=hob
   exact ⟨a,cap,(cut_alike k G).rt i n _ hik h1,fun n' hn=>by show (if i < k then G.rt i n' else none)=none;rw [if_pos hik];exact h2 n' hn,
    h3.trans rfl (fun b hb=>⟨hb,rfl,fun x _ hn=>hn⟩) (fun j c hj=>⟨c,hj,fun v hv=>hv.cut (qDc hlo hj)⟩)⟩
  | right sz n =>
   obtain ⟨a,cap,h1,h2,h3,h4⟩:=hob
   exact ⟨a,cap,(cut_alike k G).rt i n _ hik h1,h2,fun n' hn=>by show (if i < k then G.rt i n' else none)=none;rw [if_pos hik];exact h3 n' hn,h4⟩
def retP (T:Tr) (rs:List ResultVar) (k:Nat) (Q:AV→List AObj→Prop):Exit→(Nat→AV)→List AObj→Prop
 | .normal,τ,h=>∃ v r h',resA T τ h rs=some v∧(∀ G x,RepA G v x→RepA G r x)∧h'=h.take k∧h'.length=k∧low k r=true∧lowH k h'=true∧Q r h'
 | .ret,τ,h=>∃ v r h',resA T τ h rs=some v∧(∀ G x,RepA G v x→RepA G r x)∧h'=h.take k∧h'.length=k∧low k r=true∧lowH k h'=true∧Q r h'
 | _,_,_=>False
theorem qAb {P:Program} {T:Tr} (hT:TOk P T) {f:FuncId} {fn:Func} {c:Code} {rs:List ResultVar} {args:List AV} {h:List AObj} {Q:AV→List AObj→Prop} (hf:P.funcs[f]?=some fn) (hb:fn.body=some c)
  (hname:(fn.name == "runtime.NumGoroutine")=false) (hrs:fn.results=rs.toArray) (hn:Nat.ble args.length fn.ntmps=true)
  (H:∀ E:Env,E.below h.length→AW P E fn.ntmps c (retP T rs h.length Q) (look (pars args 0)) h):Spec P f args h Q:=by
 refine ⟨⟨fn,hf,hname,by rw [hb];rfl⟩,fun G w vals hvs hargs htab hw=>?_⟩
 have hbel:(⟨w,G,htab,[]⟩:Env).below h.length:=fun i hi=>hw.fresh i hi
 have hle:=Nat.le_of_ble_eq_true hn
 refine calls_of_wp hf hb (wp_mono (H ⟨w,G,htab,[]⟩ hbel _ w ⟨by simp;omega,rfl,G,hw,fun t=>?_⟩) ?_)
 ·rw [look_pars]
  by_cases ht:0≤t∧t < 0+args.length
  ·rw [if_pos ht]
   have ht2:t < args.length:=by omega
   have h1:args[t]?=some args[t]:=by simp [ht2]
   have h2:vals[t]?=some vals[t]:=by simp [hvs,ht2]
   have:=hargs t _ _ h1 h2
   simp only [Nat.sub_zero,h1,Option.getD_some]
   have hget:(vals++Array.replicate (fn.ntmps-vals.size) undef).getD t undef=vals[t]:=by
    rw [Array.getD_eq_getD_getElem?,Array.getElem?_append_left (by omega),h2];rfl
   rw [hget];exact this
  ·rw [if_neg ht];exact .any _
 ·rintro e a' w' ⟨τ',h',hq,hr⟩
  have fin:(∃ v r h'',resA T τ' h' rs=some v∧(∀ G x,RepA G v x→RepA G r x)∧h''=h'.take h.length∧h''.length=h.length∧low h.length r=true∧lowH h.length h''=true∧Q r h'') →
    a'.defers=[]∧∃ v,(results fn a'.tmps).run P w'=.ok v w'∧∃ v_1 r h' G',Ending.returned v=.returned v_1∧Q r h'∧h'.length=h.length∧low h.length r=true∧lowH h.length h'=true∧RepA G' r v_1∧WRel ⟨w,G,htab,[]⟩ G' h' w':=by
   rintro ⟨v,r,h'',q1,q2,q3,q4,q5,q6,q7⟩
   obtain ⟨r1,r2,G',hw',ht⟩:=hr
   obtain ⟨u,hu,hru⟩:=resA_run hT hw' ht hrs q1
   refine ⟨r2,u,hu,u,r,h'',cutG h.length G',rfl,q7,q4,q5,q6,(q2 _ _ hru).cut q5,hw'.cut hbel q4 (fun i hi=>?_) q6⟩
   rw [q3,List.getElem?_take,if_pos hi]
  cases e with
  | normal=>exact fin hq
  | ret=>exact fin hq
  | exit id=>exact hq.elim
  | goto l=>exact hq.elim
  | panic ch=>exact hq.elim
  | outgrown=>exact hq.elim
def fsf (fs:List Nat) (i:Nat):Nat:=fs.getD i 0
def calleeG (fs:List Nat) (G:Gh):Gh where
 imm:=G.imm
 loc:=fun i=>if i < fs.length then G.loc (fsf fs i) else none
 rt:=fun i n=>if i < fs.length then G.rt (fsf fs i) n else none
 own:=fun b=>match G.own b with
  | some j=>fs.idxOf? j
  | none=>none
def callerG (fs:List Nat) (G Gc:Gh):Gh where
 imm:=Gc.imm
 loc:=fun j=>match fs.idxOf? j with
  | some i=>Gc.loc i
  | none=>G.loc j
 rt:=fun j n=>match fs.idxOf? j with
  | some i=>Gc.rt i n
  | none=>G.rt j n
 own:=fun b=>match Gc.own b with
  | some i=>if i < fs.length then some (fsf fs i) else G.own b
  | none=>G.own b
theorem idxOf_at:∀ {fs:List Nat} {i:Nat},fs.Nodup→i < fs.length→fs.idxOf? (fsf fs i)=some i
 | [],i,_,h=>by simp at h
 | a::fs,0,_,_=>by simp [fsf,List.idxOf?_cons]
 | a::fs,i+1,hn,h=>by
  simp only [List.nodup_cons] at hn
  simp only [List.length_cons] at h
  have hi:i < fs.length:=by omega
  have hne:a≠fsf fs i:=fun hh=>hn.1 (by rw [hh];unfold fsf;rw [List.getD_eq_getElem?_getD,List.getElem?_eq_getElem hi];exact List.getElem_mem hi)
  have ih:=idxOf_at hn.2 hi
  have:fsf (a::fs) (i+1)=fsf fs i:=rfl
  rw [this,List.idxOf?_cons]
  simp [hne,ih]
theorem idxOf_some:∀ {fs:List Nat} {j i:Nat},fs.idxOf? j=some i→i < fs.length∧fsf fs i=j
 | [],j,i,h=>by simp at h
 | a::fs,j,i,h=>by
  rw [List.idxOf?_cons] at h
  split at h
  ·rename_i hh
   cases h
   simp at hh
   exact ⟨by simp,by simp [fsf,hh]⟩
  ·rw [Option.map_eq_some_iff] at h
   obtain ⟨k,hk,rfl⟩:=h
   obtain ⟨h1,h2⟩:=idxOf_some hk
   exact ⟨by simp;omega,by simpa [fsf] using h2⟩
theorem updH_at:∀ (fs:List Nat) (os h:List AObj) (i:Nat) (o:AObj),fs.Nodup→os[i]?=some o→i < fs.length→fsf fs i < h.length→(updH h fs os)[fsf fs i]?=some o
 | [],os,h,i,o,_,_,hi,_=>by simp at hi
 | a::fs,[],h,i,o,_,ho,_,_=>by simp at ho
 | a::fs,x::os,h,0,o,hn,ho,_,hl=>by
  simp at ho;subst ho
  simp only [List.nodup_cons] at hn
  have:fsf (a::fs) 0=a:=rfl
  rw [this] at hl ⊢
  rw [updH,updH_other fs os _ a hn.1]
  simp [hl]
 | a::fs,x::os,h,i+1,o,hn,ho,hi,hl=>by
  simp only [List.nodup_cons] at hn
  have:fsf (a::fs) (i+1)=fsf fs i:=rfl
  rw [this] at hl ⊢
  rw [updH]
  exact updH_at fs os _ i o hn.2 (by simpa using ho) (by simpa using hi) (by simpa using hl)
theorem call_frame {P:Program} {f:FuncId} {args hargs:List AV} {hc H:List AObj} {Q:AV→List AObj→Prop} (S:Spec P f args hc Q) {fs:List Nat} (hnd:fs.Nodup) (hlen:fs.length=hc.length)
  (hobj:∀ i,i < fs.length→H[fsf fs i]?=(hc[i]?).map (renO (fsf fs))) (hlow:lowH fs.length hc=true) (hargs':hargs=renL (fsf fs) args) (hla:lowL fs.length args=true)
  {E:Env} {G:Gh} {w:World} (hw:WRel E G H w) {vals:Array Value} (hvs:vals.size=hargs.length) (hr:∀ (j:Nat) (x:AV) (v:Value),hargs[j]?=some x→vals[j]?=some v→RepA G x v) :
  Calls P f vals w (fun e w'=>∃ v r h' G',e=.returned v∧Q r h'∧h'.length=hc.length∧G.le G'∧RepA G' (ren (fsf fs) r) v∧WRel E G' (updH H fs (h'.map (renO (fsf fs)))) w'):=by
 let Gc:=calleeG fs G
 have hin:∀ i,i < fs.length→fsf fs i < H.length:=fun i hi=>by
  have:=hobj i hi
  have h2:hc[i]?=some hc[i]:=by simp [← hlen,hi]
  rw [h2] at this
  exact (List.getElem?_eq_some_iff.1 this).1
 have hback:Back fs.length (fsf fs) Gc G:=⟨fun _ _ h=>h,fun i b hi h=>by show (if i < fs.length then G.loc (fsf fs i) else none)=some b;rw [if_pos hi];exact h,
  fun i n x hi h=>by show (if i < fs.length then G.rt (fsf fs i) n else none)=some x;rw [if_pos hi];exact h⟩
 have hown:∀ b i,Gc.own b=some i→G.own b=some (fsf fs i)∧i < fs.length:=by
  intro b i hb
  have hb':(match G.own b with | some j=>fs.idxOf? j | none=>none)=some i:=hb
  split at hb'
  ·rename_i j hj
   obtain ⟨h1,h2⟩:=idxOf_some hb'
   exact ⟨by rw [hj,h2],h1⟩
  ·cases hb'
 have hown2:∀ b i,i < fs.length→G.own b=some (fsf fs i)→Gc.own b=some i:=by
  intro b i hi hb
  show (match G.own b with | some j=>fs.idxOf? j | none=>none)=some i
  rw [hb];exact idxOf_at hnd hi
 have htabc:TabOk w Gc:=⟨E.tab.1.mono hw.le.imm,hw.tabB fun b hb=>by show (match G.own b with | some j=>fs.idxOf? j | none=>none)=none;rw [hb]⟩
 have hwc:WRel ⟨w,Gc,htabc,[]⟩ Gc hc w:=by
  refine ⟨.refl _,hw.imm,fun a v h=>.inl h,fun _ _=>rfl,Nat.le_refl _,rfl,rfl,rfl,fun b i hb=>?_,fun i hi=>?_,fun i ob hi=>?_⟩
  ·obtain ⟨h1,h2⟩:=hown b i hb
   exact ⟨(hw.own b _ h1).1,fun hk=>by have hk2:Gc.own b=none:=hk.2;rw [hb] at hk2;cases hk2⟩
  ·exact ⟨by show (if i < fs.length then _ else none)=none;rw [if_neg (by omega)],fun n=>by show (if i < fs.length then _ else none)=none;rw [if_neg (by omega)]⟩
  ·have hil:i < fs.length:=by rw [hlen];exact (List.getElem?_eq_some_iff.1 hi).1
   have hH:=hobj i hil
   rw [hi] at hH
   simp only [Option.map_some] at hH
   have hlo:=lowH_at hlow hi
   have hob:=hw.obj _ _ hH
   cases ob with
   | dead=>trivial
   | room=>exact ⟨by show (if i < fs.length then G.loc (fsf fs i) else none)=none;rw [if_pos hil];exact hob.1,fun n=>by show (if i < fs.length then G.rt (fsf fs i) n else none)=none;rw [if_pos hil];exact hob.2 n⟩
   | opq R =>
    obtain ⟨b,S,h1,h2,h3,h4,h5,h6⟩:=hob
    exact ⟨b,S,hback.loc i b hil h1,h2,fun n=>by show (if i < fs.length then G.rt (fsf fs i) n else none)=none;rw [if_pos hil];exact h3 n,fun k hk=>⟨hown2 k i hil (h4 k hk).1,(h4 k hk).2⟩,h5,h6⟩
   | row cells =>
    obtain ⟨b,h1,h2,h3,h4⟩:=hob
    refine ⟨b,hback.loc i b hil h1,hown2 b i hil h2,fun j c hj=>?_,h4.1,fun n=>by show (if i < fs.length then G.rt (fsf fs i) n else none)=none;rw [if_pos hil];exact h4.2 n⟩
    obtain ⟨v,q1,q2,q3,q4⟩:=h3 j (ren (fsf fs) c) (by rw [renL_at,hj];rfl)
    exact ⟨v,q1,q2,q3.back hback c rfl (qDc hlo hj),q4⟩
   | buf sz n cells =>
    obtain ⟨a,cap,h1,h2,h3⟩:=hob
    refine ⟨a,cap,hback.rt i n _ hil h1,fun n' hn=>by show (if i < fs.length then G.rt (fsf fs i) n' else none)=none;rw [if_pos hil];exact h2 n' hn,
     h3.trans (by rw [qCd]) (fun b hb=>⟨hown2 _ i hil hb,rfl,fun x _ hn=>hn⟩) (fun j c hj=>⟨ren (fsf fs) c,by rw [renL_at,hj];rfl,fun v hv=>hv.back hback c rfl (qDc hlo hj)⟩)⟩
   | right sz n =>
    obtain ⟨a,cap,h1,h2,h3,h4⟩:=hob
    refine ⟨a,cap,hback.rt i n _ hil h1,h2,fun n' hn=>?_,fun hlt=>?_⟩
    ·show (if i < fs.length then G.rt (fsf fs i) n' else none)=none
     rw [if_pos hil];exact h3 n' hn
    ·obtain ⟨p,p1,p2,p3,p4⟩:=h4 hlt
     exact ⟨p,p1,p2,hown2 _ i hil p3,p4⟩
 subst hargs'
 have hcall:=S.2 Gc w vals (by rw [hvs,qCd]) (fun j x v hx hv=>(hr j (ren (fsf fs) x) v (by rw [renL_at,hx];rfl) hv).back hback x rfl (qDc hla hx)) htabc hwc
 refine hcall.mono ?_
 rintro e w' ⟨v,r,h',Gc',rfl,hQ,hl',hlr,hlh,hrv,hw'⟩
 have hKc:∀ b,b < w.heap.size→Gc.own b=none→(⟨w,Gc,htabc,[]⟩:Env).K b:=fun b h1 h2=>⟨h1,h2⟩
 have hEK:∀ b,¬ (⟨w,Gc,htabc,[]⟩:Env).K b→¬ E.K b:=by
  intro b hnk hk
  have hb:b < w.heap.size:=Nat.lt_of_lt_of_le hk.1 hw.size
  cases ho:Gc.own b with
  | none=>exact hnk (hKc b hb ho)
  | some i=>exact (hw.own b _ (hown b i ho).1).2 hk
 have hEKc:∀ b,E.K b→(⟨w,Gc,htabc,[]⟩:Env).K b:=fun b hk=>Classical.byContradiction fun hn=>hEK b hn hk
 let G':=callerG fs G Gc'
 have hal:Alike fs.length (fsf fs) Gc' G':=⟨fun _ _ h=>h,fun i b hi h=>by
   show (match fs.idxOf? (fsf fs i) with | some i=>Gc'.loc i | none=>G.loc _)=some b
   rw [idxOf_at hnd hi];exact h,fun i n x hi h=>by
   show (match fs.idxOf? (fsf fs i) with | some i=>Gc'.rt i n | none=>G.rt _ n)=some x
   rw [idxOf_at hnd hi];exact h⟩
 have hle:G.le G':=by
  refine ⟨fun a v h=>hw'.le.imm a v h,fun j b hb=>?_,fun j n x hx=>?_,fun b j hb=>?_⟩
  ·show (match fs.idxOf? j with | some i=>Gc'.loc i | none=>G.loc j)=some b
   split
   ·rename_i i hi
    obtain ⟨h1,h2⟩:=idxOf_some hi
    subst h2
    exact hw'.le.loc i b (hback.loc i b h1 hb)
   ·exact hb
  ·show (match fs.idxOf? j with | some i=>Gc'.rt i n | none=>G.rt j n)=some x
   split
   ·rename_i i hi
    obtain ⟨h1,h2⟩:=idxOf_some hi
    subst h2
    exact hw'.le.rt i n x (hback.rt i n x h1 hx)
   ·exact hx
  ·show (match Gc'.own b with | some i=>if i < fs.length then some (fsf fs i) else G.own b | none=>G.own b)=some j
   have hbs:=(hw.own b j hb).1
   cases hix:fs.idxOf? j with
   | some i =>
    obtain ⟨h1,h2⟩:=idxOf_some hix
    subst h2
    have:=hw'.le.own b i (hown2 b i h1 hb)
    rw [this];simp [h1]
   | none =>
    have hgn:Gc.own b=none:=by
     show (match G.own b with | some j=>fs.idxOf? j | none=>none)=none
     rw [hb];exact hix
    have:Gc'.own b=none:=by
     cases ho:Gc'.own b with
     | none=>rfl
     | some i=>exact absurd (hKc b hbs hgn) (hw'.own b i ho).2
    rw [this];exact hb
 have hlen':(h'.map (renO (fsf fs))).length=fs.length:=by simp [hl',hlen]
 refine ⟨v,r,h',G',rfl,hQ,hl',hle,hrv.alike hal (by rw [hlen];exact hlr),?_⟩
 refine ⟨hw.le.trans hle,hw'.imm,fun a v ha=>?_,fun b hb=>?_,Nat.le_trans hw.size hw'.size,hw'.os.trans hw.os,hw'.tape.trans hw.tape,hw'.output.trans hw.output,fun b j hb=>?_,fun j hj=>?_,fun j ob hj=>?_⟩
 ·rcases hw'.immNew a v ha with h1 | h1
  ·exact hw.immNew a v h1
  ·exact .inr (hEK _ h1)
 ·exact (hw'.keep b (hEKc b hb)).trans (hw.keep b hb)
 ·have hb':(match Gc'.own b with | some i=>if i < fs.length then some (fsf fs i) else G.own b | none=>G.own b)=some j:=hb
  have old:G.own b=some j→b < w'.heap.size∧¬ E.K b:=fun h=>by
   have:=hw.own b j h;exact ⟨Nat.lt_of_lt_of_le this.1 hw'.size,this.2⟩
  split at hb'
  ·rename_i i hi
   split at hb'
   ·have:=hw'.own b i hi
    exact ⟨this.1,hEK b this.2⟩
   ·exact old hb'
  ·exact old hb'
 ·rw [qDi] at hj
  have hf:=hw.fresh j hj
  have hno:fs.idxOf? j=none:=by
   cases hix:fs.idxOf? j with
   | none=>rfl
   | some i=>obtain ⟨h1,h2⟩:=idxOf_some hix;have:=hin i h1;omega
  refine ⟨?_,fun n=>?_⟩
  ·show (match fs.idxOf? j with | some i=>Gc'.loc i | none=>G.loc j)=none
   rw [hno];exact hf.1
  ·show (match fs.idxOf? j with | some i=>Gc'.rt i n | none=>G.rt j n)=none
   rw [hno];exact hf.2 n
 ·cases hix:fs.idxOf? j with
  | some i =>
   obtain ⟨h1,h2⟩:=idxOf_some hix
   subst h2
   obtain ⟨o',ho'⟩:∃ o',h'[i]?=some o':=⟨h'[i]'(by omega),by simp [show i < h'.length by omega]⟩
   rw [updH_at fs _ H i (renO (fsf fs) o') hnd (by simp [ho']) h1 (hin i h1)] at hj
   cases hj
   have hob:=hw'.obj i o' ho'
   have hlo:=lowH_at hlh ho'
   have hown':∀ b,Gc'.own b=some i→G'.own b=some (fsf fs i):=fun b hb=>by
    show (match Gc'.own b with | some i=>if i < fs.length then some (fsf fs i) else G.own b | none=>G.own b)=_
    rw [hb];simp [h1]
   cases o' with
   | dead=>trivial
   | room =>
    refine ⟨?_,fun n=>?_⟩
    ·show (match fs.idxOf? (fsf fs i) with | some i=>Gc'.loc i | none=>G.loc _)=none
     rw [idxOf_at hnd h1];exact hob.1
    ·show (match fs.idxOf? (fsf fs i) with | some i=>Gc'.rt i n | none=>G.rt _ n)=none
     rw [idxOf_at hnd h1];exact hob.2 n
   | opq R =>
    obtain ⟨b,S,q1,q2,q3,q4,q5,q6⟩:=hob
    exact ⟨b,S,hal.loc i b h1 q1,q2,fun n=>by show (match fs.idxOf? (fsf fs i) with | some i=>Gc'.rt i n | none=>G.rt _ n)=none;rw [idxOf_at hnd h1];exact q3 n,fun k hk=>⟨hown' k (q4 k hk).1,(q4 k hk).2⟩,q5,q6⟩
   | row cells =>
    obtain ⟨b,q1,q2,q3,q4⟩:=hob
    refine ⟨b,hal.loc i b h1 q1,hown' b q2,fun k c hk=>?_,q4.1,fun n=>by show (match fs.idxOf? (fsf fs i) with | some i=>Gc'.rt i n | none=>G.rt _ n)=none;rw [idxOf_at hnd h1];exact q4.2 n⟩
    rw [renL_at,Option.map_eq_some_iff] at hk
    obtain ⟨c',hc',rfl⟩:=hk
    obtain ⟨u,u1,u2,u3,u4⟩:=q3 k c' hc'
    exact ⟨u,u1,u2,u3.alike hal (by rw [hlen];exact qDc hlo hc'),u4⟩
   | buf sz n cells =>
    obtain ⟨a,cap,q1,q2,q3⟩:=hob
    refine ⟨a,cap,hal.rt i n _ h1 q1,fun n' hn=>by show (match fs.idxOf? (fsf fs i) with | some i=>Gc'.rt i n' | none=>G.rt _ n')=none;rw [idxOf_at hnd h1];exact q2 n' hn,
     q3.trans (by rw [qCd]) (fun b hb=>⟨hown' _ hb,rfl,fun x _ hn=>hn⟩) (fun j c hj=>?_)⟩
    rw [renL_at,Option.map_eq_some_iff] at hj
    obtain ⟨c',hc',rfl⟩:=hj
    exact ⟨c',hc',fun v hv=>hv.alike hal (by rw [hlen];exact qDc hlo hc')⟩
   | right sz n =>
    obtain ⟨a,cap,q1,q2,q3,q4⟩:=hob
    refine ⟨a,cap,hal.rt i n _ h1 q1,q2,fun n' hn=>?_,fun hlt=>?_⟩
    ·show (match fs.idxOf? (fsf fs i) with | some i=>Gc'.rt i n' | none=>G.rt _ n')=none
     rw [idxOf_at hnd h1];exact q3 n' hn
    ·obtain ⟨p,p1,p2,p3,p4⟩:=q4 hlt
     exact ⟨p,p1,p2,hown' _ p3,p4⟩
  | none =>
   have hnm:j∉fs:=by rw [List.idxOf?_eq_none_iff] at hix;exact hix
   rw [updH_other fs _ H j hnm] at hj
   refine (hw.obj j ob hj).keep hle (fun b hb=>?_) (fun n hn=>?_) (fun hn=>by show (match fs.idxOf? j with | some i=>Gc'.loc i | none=>G.loc j)=none;rw [hix];exact hn)
   ·have hbs:=(hw.own b j hb).1
    have hgn:Gc.own b=none:=by
     show (match G.own b with | some j=>fs.idxOf? j | none=>none)=none
     rw [hb];exact hix
    have hk:=hKc b hbs hgn
    refine ⟨hw'.keep b hk,fun a ha=>?_⟩
    cases hga:Gc'.imm a with
    | none =>
     show Gc'.imm a=G.imm a
     rw [hga]
     cases hg:G.imm a with
     | none=>rfl
     | some v=>have:=hw'.le.imm a v hg;rw [hga] at this;cases this
    | some v =>
     show Gc'.imm a=G.imm a
     rcases hw'.immNew a v hga with h1 | h1
     ·rw [hga];exact h1.symm
     ·exact absurd (ha▸hk) h1
   ·show (match fs.idxOf? j with | some i=>Gc'.rt i n | none=>G.rt j n)=none
    rw [hix];exact hn
end Tdoc
namespace Tdoc
open Go
mutual
theorem ren_low (f:Nat→Nat):∀ (x:AV),low 0 x=true→ren f x=x
 | .d x,_=>rfl
 | .sl sz es tok,h=>by cases tok <;> first | rfl | (simp [low,lowT] at h)
 | .nils,_=>rfl
 | .ptr i off,h=>by simp [low] at h
 | .iptr cs,_=>rfl
 | .nilp,_=>rfl
 | .row i off n cap,h=>by simp [low] at h
 | .bm i n,h=>by simp [low] at h
 | .bp i n m,h=>by simp [low] at h
 | .fn g a b,h=>by simp [low] at h;simp [ren,renL_low f a h.1,renL_low f b h.2]
 | .nilf,_=>rfl
 | .mp i,h=>by simp [low] at h
 | .rx i off n,h=>by simp [low] at h
 | .ifc _,_=>rfl
 | .agg cs,h=>by simp [low] at h;simp [ren,renL_low f cs h]
 | .tup vs,h=>by simp [low] at h;simp [ren,renL_low f vs h]
 | .gd b v,h=>by simp [low] at h;simp [ren,ren_low f v h]
 | .any,_=>rfl
theorem renL_low (f:Nat→Nat):∀ (l:List AV),lowL 0 l=true→renL f l=l
 | [],_=>rfl
 | a::l,h=>by simp [lowL] at h;simp [renL,ren_low f a h.1,renL_low f l h.2]
end
mutual
theorem low_mono {k k':Nat} (hk:k≤k'):∀ (x:AV),low k x=true→low k' x=true
 | .d x,_=>rfl
 | .sl sz es tok,h=>by
  cases tok with
  | right i=>have:=qBo (a:=i) (b:=k) h;simp [low,lowT];omega
  | none=>rfl
  | full=>rfl
 | .nils,_=>rfl
 | .ptr i off,h=>by have:=qBo (a:=i) (b:=k) h;simp [low];omega
 | .iptr cs,_=>rfl
 | .nilp,_=>rfl
 | .row i off n cap,h=>by have:=qBo (a:=i) (b:=k) h;simp [low];omega
 | .bm i n,h=>by have:=qBo (a:=i) (b:=k) h;simp [low];omega
 | .bp i n m,h=>by have:=qBo (a:=i) (b:=k) h;simp [low];omega
 | .fn g a b,h=>by simp [low] at h;simp [low,lowL_mono hk a h.1,lowL_mono hk b h.2]
 | .nilf,_=>rfl
 | .mp i,h=>by have:=qBo (a:=i) (b:=k) h;simp [low];omega
 | .rx i off n,h=>by have:=qBo (a:=i) (b:=k) h;simp [low];omega
 | .ifc _,_=>rfl
 | .agg cs,h=>by simp [low] at h;simp [low,lowL_mono hk cs h]
 | .tup vs,h=>by simp [low] at h;simp [low,lowL_mono hk vs h]
 | .gd b v,h=>by simp [low] at h;simp [low,low_mono hk v h]
 | .any,_=>rfl
theorem lowL_mono {k k':Nat} (hk:k≤k'):∀ (l:List AV),lowL k l=true→lowL k' l=true
 | [],_=>rfl
 | a::l,h=>by simp [lowL] at h;simp [lowL,low_mono hk a h.1,lowL_mono hk l h.2]
end
theorem lowL_d {k:Nat}:∀ (l:List Dat),lowL k (l.map .d)=true
 | []=>rfl
 | a::l=>by simp [lowL,low,lowL_d l]
theorem renO_low (f:Nat→Nat) (o:AObj) (h:lowO 0 o=true):renO f o=o:=by
 cases o with
 | row cells=>simp [renO,renL_low f cells h]
 | buf sz n cells=>simp [renO,renL_low f cells h]
 | right sz n=>rfl
 | dead=>rfl
 | room=>rfl
 | opq R=>rfl
theorem renH_low (f:Nat→Nat):∀ (l:List AObj),lowH 0 l=true→l.map (renO f)=l
 | [],_=>rfl
 | a::l,h=>by simp [lowH] at h;simp [renO_low f a h.1,renH_low f l h.2]
section
variable {P:Program} {E:Env}
theorem callR {o:Oper} {ρ:Operand→AV} {H:List AObj} {f:Operand} {as:List Operand} {ats:Array TypeId} {g:FuncId} {first cap:List AV} (ho:o.op=.call ⟨.value f,as.toArray,ats⟩) (hf:ρ f=.fn (.func g) first cap)
  {args:List AV} {hc:List AObj} {Q:AV→List AObj→Prop} (S:Spec P g args hc Q) (fs:List Nat) (hnd:fs.Nodup)
  (hobj:fs.map (fun j=>H[j]?)=hc.map (fun o=>some (renO (fsf fs) o))) (hlow:lowH fs.length hc=true) (hargs:first++(as.map ρ++cap)=renL (fsf fs) args) (hla:lowL fs.length args=true) :
  OpR P E o ρ H (fun v H'=>∃ r h',Q r h'∧h'.length=hc.length∧v=ren (fsf fs) r∧H'=updH H fs (h'.map (renO (fsf fs)))):=by
 intro G a w hw hr
 have hlen:fs.length=hc.length:=by have:=congrArg List.length hobj;simpa using this
 have hobj':∀ i,i < fs.length→H[fsf fs i]?=(hc[i]?).map (renO (fsf fs)):=by
  intro i hi
  have h1:=congrArg (fun l=>l[i]?) hobj
  simp only [List.getElem?_map] at h1
  have h2:fs[i]?=some (fsf fs i):=by unfold fsf;rw [List.getD_eq_getElem?_getD,List.getElem?_eq_getElem hi];rfl
  have h3:hc[i]?=some (hc[i]'(by omega)):=by simp [show i < hc.length by omega]
  rw [h2,h3] at h1
  simp only [Option.map_some,Option.some.injEq] at h1
  rw [h1,h3];rfl
 have hf':RepA G (ρ f) (a.eval f):=hr f (by simp [ho,Op.operands,Call.operands])
 have has:∀ x,x∈as→RepA G (ρ x) (a.eval x):=fun x hx=>hr x (by simp [ho,Op.operands,Call.operands,hx])
 rw [hf] at hf'
 generalize hfv:a.eval f=fv at hf'
 cases hf' with
 | fn _ fvs cvs h1 h2 h3 h4 =>
 obtain ⟨fn,k1,k2,k3⟩:=S.1
 have k2':¬ fn.name = "runtime.NumGoroutine" := by simpa using k2
 have k3':¬ fn.body=none:=by intro hh;rw [hh] at k3;cases k3
 have hrun:(execOp a.eval o).run P w=.ok (.enter g (fvs++(as.map a.eval).toArray++cvs)) w:=by
  unfold execOp
  simp [ho,resolve,hfv,Deferred.ofValue,invoke,callFunc,k1,k2',k3']
 unfold Oper.wp
 rw [hrun]
 have hcf:=call_frame S hnd hlen hobj' hlow hargs hla hw (vals:=fvs++(as.map a.eval).toArray++cvs) (by simp [h1,h2]) (fun j x v hx hv=>by
  rw [← List.append_assoc] at hx
  have hv':(fvs.toList++(as.map a.eval)++cvs.toList)[j]?=some v:=by
   rw [← Array.getElem?_toList] at hv
   simpa using hv
  by_cases hj1:j < first.length
  ·rw [List.append_assoc,List.getElem?_append_left (by simpa using hj1)] at hx
   rw [List.append_assoc,List.getElem?_append_left (by simp [h1];exact hj1)] at hv'
   exact h3 j x v hx (by simpa using hv')
  ·by_cases hj2:j < first.length+as.length
   ·rw [List.getElem?_append_left (by simp;omega),List.getElem?_append_right (by omega)] at hx
    rw [List.getElem?_append_left (by simp [h1];omega),List.getElem?_append_right (by simp [h1];omega)] at hv'
    simp only [Array.length_toList,h1] at hv'
    rw [List.getElem?_map,Option.map_eq_some_iff] at hx hv'
    obtain ⟨y,hy,rfl⟩:=hx
    obtain ⟨z,hz,rfl⟩:=hv'
    rw [hy] at hz;cases hz
    exact has y (List.mem_of_getElem? hy)
   ·rw [List.getElem?_append_right (by simp;omega)] at hx
    rw [List.getElem?_append_right (by simp [h1];omega)] at hv'
    simp only [List.length_append,Array.length_toList,h1,List.length_map] at hx hv'
    exact h4 _ x v hx (by simpa using hv'))
 refine hcf.mono ?_
 rintro e w' ⟨v,r,h',G',rfl,q1,q2,q3,q4,q5⟩
 exact ⟨v,G',ren (fsf fs) r,_,⟨r,h',q1,q2,rfl,rfl⟩,rfl,q3,q5,q4⟩
theorem callS {o:Oper} {ρ:Operand→AV} {H:List AObj} {f:Operand} {as:List Operand} {ats:Array TypeId} {g:FuncId} {first cap:List AV} (ho:o.op=.call ⟨.value f,as.toArray,ats⟩) (hf:ρ f=.fn (.func g) first cap)
  {args:List AV} {hc h0:List AObj} {r0:AV} (S:Spec P g args hc (fun r h'=>r=r0∧h'=h0)) (fs:List Nat) (hnd:fs.Nodup)
  (hobj:fs.map (fun j=>H[j]?)=hc.map (fun o=>some (renO (fsf fs) o))) (hlow:lowH fs.length hc=true) (hargs:first++(as.map ρ++cap)=renL (fsf fs) args) (hla:lowL fs.length args=true)
  {v:AV} {H':List AObj} (hv:ren (fsf fs) r0=v) (hH:updH H fs (h0.map (renO (fsf fs)))=H'):OpS P E o ρ H v H':=by
 intro G a w hw hr
 refine wp_mono2 ?_ (callR ho hf S fs hnd hobj hlow hargs hla G a w hw hr)
 rintro a' w' ⟨u,G',v',h',⟨r,h'',⟨rfl,rfl⟩,k2,rfl,rfl⟩,h1,h2,h3,h4⟩
 subst hv;subst hH
 exact ⟨u,G',h1,h2,h3,h4⟩
theorem callS0 {o:Oper} {ρ:Operand→AV} {H:List AObj} {f:Operand} {as:List Operand} {ats:Array TypeId} {g:FuncId} {first cap:List AV} (ho:o.op=.call ⟨.value f,as.toArray,ats⟩) (hf:ρ f=.fn (.func g) first cap)
  {args:List AV} {r0:AV} (S:Spec P g args [] (fun r h'=>r=r0∧h'=[])) (hargs:first++(as.map ρ++cap)=args) (hla:lowL 0 args=true) (hr0:low 0 r0=true):OpS P E o ρ H r0 H :=
 callS ho hf S [] (List.nodup_nil) rfl rfl (by rw [hargs,renL_low _ _ hla]) hla (ren_low _ _ hr0) rfl
def AV.le (x y:AV):Prop:=∀ G v,RepA G x v→RepA G y v
theorem AV.le.refl (x:AV):AV.le x x:=fun _ _ h=>h
theorem AV.le.any (x:AV):AV.le x .any:=fun _ v _=>.any v
theorem AV.le.eq {x y:AV} (h:x=y):AV.le x y:=h▸AV.le.refl x
theorem AV.le.dat {sz:Nat} {es:List (List Dat)} {tok:Tok}:AV.le (.sl sz es tok) (.d (.sl sz es)):=fun _ _ h=>by cases h with | sl r _=>exact .d r
theorem AV.le.nils {sz:Nat}:AV.le .nils (.d (.sl sz [])):=fun _ _ h=>by cases h;exact .d (.nil sz)
theorem AV.le.trans {x y z:AV} (h:AV.le x y) (k:AV.le y z):AV.le x z:=fun G v r=>k G v (h G v r)
def AllLe:List AV→List AV→Prop
 | [],[]=>True
 | x::l,y::r=>AV.le x y∧AllLe l r
 | _,_=>False
theorem AllLe_at:∀ {l r:List AV},AllLe l r→l.length=r.length∧∀ (j:Nat) (y:AV),r[j]?=some y→∃ x,l[j]?=some x∧AV.le x y
 | [],[],_=>⟨rfl,fun j y h=>by simp at h⟩
 | x::l,y::r,h=>by
  obtain ⟨h1,h2⟩:=AllLe_at h.2
  refine ⟨by simp [h1],fun j z hz=>?_⟩
  cases j with
  | zero=>simp at hz;subst hz;exact ⟨x,by simp,h.1⟩
  | succ j=>obtain ⟨u,hu,hl⟩:=h2 j z (by simpa using hz);exact ⟨u,by simpa using hu,hl⟩
 | [],_::_,h=>h.elim
 | _::_,[],h=>h.elim
theorem AllLe.refl:∀ (l:List AV),AllLe l l
 | []=>trivial
 | x::l=>⟨.refl x,AllLe.refl l⟩
theorem AV.le.agg {l r:List AV} (h:AllLe l r):AV.le (.agg l) (.agg r):=by
 intro G v hv
 obtain ⟨h1,h2⟩:=AllLe_at h
 generalize hx:AV.agg l=x at hv
 cases hv <;> cases hx
 rename_i vs k3 k1 k2
 refine .agg vs (by rw [k1,h1]) (fun j y u hy hu=>?_) k3
 obtain ⟨x,hx,hl⟩:=h2 j y hy
 exact hl _ _ (k2 j x u hx hu)
theorem AV.le.tup {l r:List AV} (h:AllLe l r):AV.le (.tup l) (.tup r):=by
 intro G v hv
 obtain ⟨h1,h2⟩:=AllLe_at h
 generalize hx:AV.tup l=x at hv
 cases hv <;> cases hx
 rename_i vs k1 k2
 refine .tup vs (by rw [k1,h1]) (fun j y u hy hu=>?_)
 obtain ⟨x,hx,hl⟩:=h2 j y hy
 exact hl _ _ (k2 j x u hx hu)
def SubL (τ:Nat→AV):List (Nat×AV)→Prop
 | []=>True
 | p::l=>AV.le (τ p.1) p.2∧SubL τ l
theorem SubL_look {τ:Nat→AV}:∀ {l:List (Nat×AV)},SubL τ l→∀ t,AV.le (τ t) (look l t)
 | [],_,t=>.any _
 | (d,v)::l,h,t=>by
  show AV.le (τ t) (bif Nat.beq t d then v else look l t)
  cases hb:Nat.beq t d with
  | true=>obtain rfl:=Nat.eq_of_beq_eq_true hb;exact h.1
  | false=>exact SubL_look h.2 t
def ObLe:AObj→AObj→Prop
 | .row l,.row r=>AllLe l r
 | .buf sz n l,.buf sz' n' r=>sz=sz'∧n=n'∧AllLe l r
 | .right sz n,.right sz' n'=>sz=sz'∧n=n'
 | _,.dead=>True
 | .room,.room=>True
 | .opq R,.opq R'=>R=R'
 | _,_=>False
def HLe:List AObj→List AObj→Prop
 | [],[]=>True
 | x::l,y::r=>ObLe x y∧HLe l r
 | _,_=>False
theorem HLe_at:∀ {l r:List AObj},HLe l r→l.length=r.length∧∀ (j:Nat) (y:AObj),r[j]?=some y→∃ x,l[j]?=some x∧ObLe x y
 | [],[],_=>⟨rfl,fun j y h=>by simp at h⟩
 | x::l,y::r,h=>by
  obtain ⟨h1,h2⟩:=HLe_at h.2
  refine ⟨by simp [h1],fun j z hz=>?_⟩
  cases j with
  | zero=>simp at hz;subst hz;exact ⟨x,by simp,h.1⟩
  | succ j=>obtain ⟨u,hu,hl⟩:=h2 j z (by simpa using hz);exact ⟨u,by simpa using hu,hl⟩
 | [],_::_,h=>h.elim
 | _::_,[],h=>h.elim
theorem ObLe.refl (o:AObj):ObLe o o:=by cases o <;> simp [ObLe,AllLe.refl]
theorem HLe.refl:∀ (h:List AObj),HLe h h
 | []=>trivial
 | o::l=>⟨ObLe.refl o,HLe.refl l⟩
theorem ObjRel.le {G:Gh} {w:World} {i:Nat} {o o':AObj} (h:ObLe o o') (hr:ObjRel G w i o):ObjRel G w i o':=by
 cases o' with
 | dead=>trivial
 | row r =>
  cases o with
  | row l =>
   obtain ⟨b,h1,h2,h3,h4⟩:=hr
   refine ⟨b,h1,h2,fun j c hj=>?_,h4⟩
   obtain ⟨x,hx,hl⟩:=(AllLe_at h).2 j c hj
   obtain ⟨v,q1,q2,q3,q4⟩:=h3 j x hx
   exact ⟨v,q1,q2,hl _ _ q3,q4⟩
  | _=>exact h.elim
 | buf sz n r =>
  cases o with
  | buf sz' n' l =>
   obtain ⟨rfl,rfl,h⟩:=h
   obtain ⟨a,cap,h1,h2,h3⟩:=hr
   refine ⟨a,cap,h1,h2,h3.trans (AllLe_at h).1.symm (fun b hb=>⟨hb,rfl,fun x _ hn=>hn⟩) (fun j c hj=>?_)⟩
   obtain ⟨x,hx,hl⟩:=(AllLe_at h).2 j c hj
   exact ⟨x,hx,fun v hv=>hl _ _ hv⟩
  | _=>exact h.elim
 | right sz n =>
  cases o with
  | right sz' n'=>obtain ⟨rfl,rfl⟩:=h;exact hr
  | _=>exact h.elim
 | room =>
  cases o with
  | room=>exact hr
  | _=>exact h.elim
 | opq R =>
  cases o with
  | opq R'=>obtain rfl:R'=R:=h;exact hr
  | _=>exact h.elim
theorem Rel_sub {N:Nat} {τ:Nat→AV} {l:List (Nat×AV)} {h h':List AObj} (hs:SubL τ l) (hh:HLe h h'):∀ a w,Rel E N τ h a w→Rel E N (look l) h' a w:=by
 rintro a w ⟨h1,h2,G,hw,ht⟩
 refine ⟨h1,h2,G,⟨hw.le,hw.imm,hw.immNew,hw.keep,hw.size,hw.os,hw.tape,hw.output,hw.own,fun i hi=>hw.fresh i (by rw [(HLe_at hh).1];exact hi),fun i o hi=>?_⟩,fun t=>SubL_look hs t _ _ (ht t)⟩
 obtain ⟨x,hx,hl⟩:=(HLe_at hh).2 i o hi
 exact (hw.obj i x hx).le hl
def lowS (k:Nat):List (Nat×AV)→Bool
 | []=>true
 | p::l=>low k p.2&&lowS k l
theorem lowS_look {k:Nat}:∀ {l:List (Nat×AV)},lowS k l=true→∀ t,low k (look l t)=true
 | [],_,t=>rfl
 | (d,v)::l,h,t=>by
  simp only [lowS,Bool.and_eq_true] at h
  show low k (bif Nat.beq t d then v else look l t)=true
  cases hb:Nat.beq t d with
  | true=>exact h.1
  | false=>exact lowS_look h.2 t
theorem Rel_cut {N:Nat} {τ:Nat→AV} {l:List (Nat×AV)} {h h' junk:List AObj} (hb:E.below h'.length) (hs:SubL τ l) (hls:lowS h'.length l=true) (hh:HLe h (h'++junk)) (hlh:lowH h'.length h'=true):∀ a w,Rel E N τ h a w→Rel E N (look l) h' a w:=by
 intro a w hr
 obtain ⟨h1,h2,G,hw,ht⟩:=Rel_sub (l:=l) hs hh a w hr
 refine ⟨h1,h2,cutG h'.length G,hw.cut hb rfl (fun i hi=>by rw [List.getElem?_append_left hi]) hlh,fun t=>(ht t).cut (lowS_look hls t)⟩
theorem Env.below_mono {k k':Nat} (h:E.below k) (hk:k≤k'):E.below k':=fun i hi=>h i (by omega)
theorem Rel_acquire {N:Nat} {l:List (Nat×AV)} {h:List AObj} {t sz:Nat} {es:List (List Dat)} (ht:look l t=.sl sz es .full∨(look l t=.nils∧es=[])) :
  ∀ a w,Rel E N (look l) h a w→Rel E N (look ((t,.sl sz es (.right h.length))::l)) (h++[.right sz es.length]) a w:=by
 rintro a w ⟨h1,h2,G,hw,hr⟩
 have hv:=hr t
 obtain ⟨p,hv',hrep⟩:∃ p,a.tmps.getD t undef=.slice p es.length es.length∧RepD G.imm (.sl sz es) (a.tmps.getD t undef):=by
  rcases ht with ht | ⟨ht,rfl⟩
  ·rw [ht] at hv
   generalize a.tmps.getD t undef=u at hv
   cases hv with
   | sl r k=>obtain ⟨p,rfl⟩:=k;exact ⟨p,rfl,r⟩
  ·rw [ht] at hv
   generalize a.tmps.getD t undef=u at hv
   cases hv
   exact ⟨none,rfl,.nil _⟩
 have hf:=hw.fresh h.length (Nat.le_refl _)
 let G':Gh:={ G with rt:=fun i n=>if i=h.length∧n=es.length then some (p,es.length) else G.rt i n }
 have hle:G.le G':=⟨fun _ _ x=>x,fun _ _ x=>x,fun i n x hx=>by
  show (if i=h.length∧n=es.length then _ else G.rt i n)=some x
  rw [if_neg (by rintro ⟨rfl,_⟩;rw [hf.2 n] at hx;cases hx)];exact hx,fun _ _ x=>x⟩
 refine ⟨h1,h2,G',⟨hw.le.trans hle,hw.imm,hw.immNew,hw.keep,hw.size,hw.os,hw.tape,hw.output,hw.own,fun i hi=>?_,fun i o hi=>?_⟩,fun t'=>?_⟩
 ·simp only [List.length_append,List.length_cons,List.length_nil] at hi
  have:=hw.fresh i (by omega)
  exact ⟨this.1,fun n=>by show (if i=h.length∧n=es.length then _ else G.rt i n)=none;rw [if_neg (by omega)];exact this.2 n⟩
 ·by_cases hlt:i < h.length
  ·rw [List.getElem?_append_left hlt] at hi
   refine (hw.obj i o hi).keep hle (fun b _=>⟨rfl,fun _ _=>rfl⟩) (fun n hn=>?_) (fun hn=>hn)
   show (if i=h.length∧n=es.length then _ else G.rt i n)=none
   rw [if_neg (by omega)];exact hn
  ·rw [List.getElem?_append_right (by omega)] at hi
   have hi0:i-h.length=0:=by have:=(List.getElem?_eq_some_iff.1 hi).1;simp at this;omega
   rw [hi0] at hi
   simp at hi
   subst hi
   obtain rfl:i=h.length:=by omega
   refine ⟨p,es.length,?_,Nat.le_refl _,fun n' hn=>?_,fun hlt=>by omega⟩
   ·show (if h.length=h.length∧es.length=es.length then _ else _)=_;simp
   ·show (if h.length=h.length∧n'=es.length then _ else G.rt _ n')=none
    rw [if_neg (by omega)];exact hf.2 n'
 ·show RepA G' (bif Nat.beq t' t then _ else look l t') _
  cases hb:Nat.beq t' t with
  | true =>
   obtain rfl:=Nat.eq_of_beq_eq_true hb
   refine .sl (hrep.mono hle.imm) ⟨p,es.length,hv',?_⟩
   show (if h.length=h.length∧es.length=es.length then _ else _)=_;simp
  | false=>exact (hr t').mono hle
end
theorem Rel_room {E:Env} {N:Nat} {τ:Nat→AV} {h:List AObj}:∀ a w,Rel E N τ h a w→Rel E N τ (h++[.room]) a w:=by
 rintro a w ⟨h1,h2,G,hw,ht⟩
 refine ⟨h1,h2,G,⟨hw.le,hw.imm,hw.immNew,hw.keep,hw.size,hw.os,hw.tape,hw.output,hw.own,fun i hi=>hw.fresh i (by simp at hi;omega),fun i o hi=>?_⟩,ht⟩
 by_cases hlt:i < h.length
 ·rw [List.getElem?_append_left hlt] at hi;exact hw.obj i o hi
 ·rw [List.getElem?_append_right (by omega)] at hi
  have hi0:i-h.length=0:=by have:=(List.getElem?_eq_some_iff.1 hi).1;simp at this;omega
  rw [hi0] at hi
  simp at hi
  subst hi
  exact hw.fresh i (by omega)
def acqG (G:Gh) (i n:Nat) (p:Option Addr):Gh :=
 { G with rt:=fun j m=>if j=i∧m=n then some (p,n) else G.rt j m }
theorem WRel.acquire {E:Env} {G:Gh} {h:List AObj} {w:World} {i sz:Nat} {es:List (List Dat)} {p:Option Addr} (hw:WRel E G h w) (hi:h[i]?=some .room) (hrep:RepD G.imm (.sl sz es) (.slice p es.length es.length)) :
  G.le (acqG G i es.length p)∧WRel E (acqG G i es.length p) (h.set i (.right sz es.length)) w∧RepA (acqG G i es.length p) (.sl sz es (.right i)) (.slice p es.length es.length):=by
 have hro:=hw.obj i _ hi
 have hle:G.le (acqG G i es.length p):=⟨fun _ _ x=>x,fun _ _ x=>x,fun j m x hx=>by
  show (if j=i∧m=es.length then _ else G.rt j m)=some x
  rw [if_neg (by rintro ⟨rfl,rfl⟩;rw [hro.2] at hx;cases hx)];exact hx,fun _ _ x=>x⟩
 refine ⟨hle,⟨hw.le.trans hle,hw.imm,hw.immNew,hw.keep,hw.size,hw.os,hw.tape,hw.output,hw.own,fun j hj=>?_,fun j o hj=>?_⟩,.sl (hrep.mono hle.imm) ⟨p,es.length,rfl,?_⟩⟩
 ·simp only [List.length_set] at hj
  have:=hw.fresh j hj
  have hil:=(List.getElem?_eq_some_iff.1 hi).1
  exact ⟨this.1,fun n=>by show (if j=i∧n=es.length then _ else G.rt j n)=none;rw [if_neg (by omega)];exact this.2 n⟩
 ·rw [List.getElem?_set] at hj
  split at hj
  ·rename_i e;subst e
   split at hj
   ·cases hj
    refine ⟨p,es.length,?_,Nat.le_refl _,fun n' hn=>?_,fun hlt=>by omega⟩
    ·show (if i=i∧es.length=es.length then _ else _)=_;simp
    ·show (if i=i∧n'=es.length then _ else G.rt i n')=none
     rw [if_neg (by omega)];exact hro.2 n'
   ·cases hj
  ·rename_i e
   refine (hw.obj j o hj).keep hle (fun b _=>⟨rfl,fun _ _=>rfl⟩) (fun n hn=>?_) (fun hn=>hn)
   show (if j=i∧n=es.length then _ else G.rt j n)=none
   rw [if_neg (by rintro ⟨rfl,_⟩;exact e rfl)];exact hn
 ·show (if i=i∧es.length=es.length then _ else _)=_;simp
theorem Rel_acquireAt {E:Env} {N:Nat} {l:List (Nat×AV)} {h:List AObj} {t sz i:Nat} {es:List (List Dat)} (ht:look l t=.sl sz es .full∨(look l t=.nils∧es=[])) (hi:h[i]?=some .room) :
  ∀ a w,Rel E N (look l) h a w→Rel E N (look ((t,.sl sz es (.right i))::l)) (h.set i (.right sz es.length)) a w:=by
 rintro a w ⟨h1,h2,G,hw,hr⟩
 have hv:=hr t
 obtain ⟨p,hv',hrep⟩:∃ p,a.tmps.getD t undef=.slice p es.length es.length∧RepD G.imm (.sl sz es) (a.tmps.getD t undef):=by
  rcases ht with ht | ⟨ht,rfl⟩
  ·rw [ht] at hv
   generalize a.tmps.getD t undef=u at hv
   cases hv with
   | sl r k=>obtain ⟨p,rfl⟩:=k;exact ⟨p,rfl,r⟩
  ·rw [ht] at hv
   generalize a.tmps.getD t undef=u at hv
   cases hv
   exact ⟨none,rfl,.nil _⟩
 rw [hv'] at hrep
 obtain ⟨hle,hw1,hrs⟩:=hw.acquire hi hrep
 refine ⟨h1,h2,_,hw1,fun t'=>?_⟩
 show RepA _ (bif Nat.beq t' t then _ else look l t') _
 cases hb:Nat.beq t' t with
 | true =>
  obtain rfl:=Nat.eq_of_beq_eq_true hb
  rw [hv'];exact hrs
 | false=>exact (hr t').mono hle
theorem fsf_range {k i:Nat} (h:i < k):fsf (List.range k) i=i:=by
 unfold fsf
 rw [List.getD_eq_getElem?_getD,List.getElem?_range h];rfl
mutual
theorem ren_lowk {k:Nat} {f:Nat→Nat} (hf:∀ i,i < k→f i=i):∀ (x:AV),low k x=true→ren f x=x
 | .d x,_=>rfl
 | .sl sz es tok,h=>by
  cases tok with
  | right i=>simp [ren,renT,hf i (qBo h)]
  | none=>rfl
  | full=>rfl
 | .nils,_=>rfl
 | .ptr i off,h=>by simp [ren,hf i (qBo h)]
 | .iptr cs,_=>rfl
 | .nilp,_=>rfl
 | .row i off n cap,h=>by simp [ren,hf i (qBo h)]
 | .bm i n,h=>by simp [ren,hf i (qBo h)]
 | .bp i n m,h=>by simp [ren,hf i (qBo h)]
 | .fn g a b,h=>by simp [low] at h;simp [ren,renL_lowk hf a h.1,renL_lowk hf b h.2]
 | .nilf,_=>rfl
 | .mp i,h=>by simp [ren,hf i (qBo h)]
 | .rx i off n,h=>by simp [ren,hf i (qBo h)]
 | .ifc _,_=>rfl
 | .agg cs,h=>by simp [low] at h;simp [ren,renL_lowk hf cs h]
 | .tup vs,h=>by simp [low] at h;simp [ren,renL_lowk hf vs h]
 | .gd b v,h=>by simp [low] at h;simp [ren,ren_lowk hf v h]
 | .any,_=>rfl
theorem renL_lowk {k:Nat} {f:Nat→Nat} (hf:∀ i,i < k→f i=i):∀ (l:List AV),lowL k l=true→renL f l=l
 | [],_=>rfl
 | a::l,h=>by simp [lowL] at h;simp [renL,ren_lowk hf a h.1,renL_lowk hf l h.2]
end
theorem renO_lowk {k:Nat} {f:Nat→Nat} (hf:∀ i,i < k→f i=i) (o:AObj) (h:lowO k o=true):renO f o=o:=by
 cases o with
 | row cells=>simp [renO,renL_lowk hf cells h]
 | buf sz n cells=>simp [renO,renL_lowk hf cells h]
 | right sz n=>rfl
 | dead=>rfl
 | room=>rfl
 | opq R=>rfl
theorem renH_lowk {k:Nat} {f:Nat→Nat} (hf:∀ i,i < k→f i=i):∀ (l:List AObj),lowH k l=true→l.map (renO f)=l
 | [],_=>rfl
 | a::l,h=>by simp [lowH] at h;simp [renO_lowk hf a h.1,renH_lowk hf l h.2]
theorem updH_range (h os:List AObj) (hl:os.length=h.length):updH h (List.range h.length) os=os:=by
 apply List.ext_getElem?
 intro j
 by_cases hj:j < h.length
 ·have ho:os[j]?=some (os[j]'(by omega)):=by simp [show j < os.length by omega]
  have:=updH_at (List.range h.length) os h j _ List.nodup_range ho (by simpa using hj) (by rw [fsf_range hj];exact hj)
  rw [fsf_range hj] at this
  rw [this,ho]
 ·rw [List.getElem?_eq_none (by rw [qDi];omega),List.getElem?_eq_none (by omega)]
theorem callSame {P:Program} {E:Env} {o:Oper} {ρ:Operand→AV} {H:List AObj} {f:Operand} {as:List Operand} {ats:Array TypeId} {g:FuncId} {first cap:List AV} (ho:o.op=.call ⟨.value f,as.toArray,ats⟩) (hf:ρ f=.fn (.func g) first cap)
  {args:List AV} {Q:AV→List AObj→Prop} (S:Spec P g args H (fun r h'=>Q r h'∧low H.length r=true∧lowH H.length h'=true)) (hlow:lowH H.length H=true) (hargs:first++(as.map ρ++cap)=args) (hla:lowL H.length args=true):OpR P E o ρ H Q:=by
 intro G a w hw hr
 have hf':∀ i,i < H.length→fsf (List.range H.length) i=i:=fun i hi=>fsf_range hi
 have hobj:(List.range H.length).map (fun j=>H[j]?)=H.map (fun o=>some (renO (fsf (List.range H.length)) o)):=by
  have h1:H.map (fun o=>some (renO (fsf (List.range H.length)) o))=(H.map (renO (fsf (List.range H.length)))).map some:=by simp
  rw [h1,renH_lowk hf' H hlow]
  apply List.ext_getElem?
  intro j
  by_cases hj:j < H.length
  ·simp [hj]
  ·simp [List.getElem?_eq_none (Nat.le_of_not_lt hj)]
   omega
 refine wp_mono2 ?_ (callR ho hf S (List.range H.length) List.nodup_range hobj (by simpa using hlow) (by rw [hargs,renL_lowk hf' _ hla]) (by simpa using hla) G a w hw hr)
 rintro a' w' ⟨u,G',v',h',⟨r,h'',⟨k0,k1,k2⟩,k3,rfl,rfl⟩,h1,h2,h3,h4⟩
 rw [renH_lowk hf' h'' k2,updH_range H h'' k3] at h3
 rw [ren_lowk hf' r k1] at h4
 exact ⟨u,G',r,h'',k0,h1,h2,h3,h4⟩
section
variable {P:Program} {E:Env} {N:Nat} {Q:Exit→(Nat→AV)→List AObj→Prop} {τ:Nat→AV} {h:List AObj}
theorem qAq {c:Code} {ι:Type} (S:ι→List (Nat×AV)) (H:ι→List AObj) (inv:ι→Prop) (μ:ι→Nat) (x0:ι) (h0:inv x0) (hs:SubL τ (S x0)) (hh:HLe h (H x0))
  (round:∀ x,inv x→AW P E N c (thenA (fun τ' h'=>∃ y,inv y∧μ y < μ x∧SubL τ' (S y)∧HLe h' (H y)) Q) (look (S x)) (H x)):AW P E N (.loop c) Q τ h :=
 AW_loop (fun x=>look (S x)) H inv μ x0 h0 (Rel_sub hs hh) fun x hx=>AW_mono (round x hx) fun e τ' h' hq=>by
  cases e with
  | normal=>obtain ⟨y,h1,h2,h3,h4⟩:=hq;exact ⟨y,h1,h2,Rel_sub h3 h4⟩
  | _=>exact hq
theorem qBu {c:Code} {ι:Type} (S:ι→List (Nat×AV)) (H:ι→List AObj) (inv:ι→Prop) (μ:ι→Nat) (x0:ι) (h0:inv x0) (hs:SubL τ (S x0)) (hh:HLe h (H x0))
  (round:∀ x,inv x→AW P E N c (thenA (fun τ' h'=>∃ y junk,inv y∧μ y < μ x∧SubL τ' (S y)∧HLe h' (H y++junk)∧E.below (H y).length∧lowS (H y).length (S y)=true∧lowH (H y).length (H y)=true) Q) (look (S x)) (H x)):AW P E N (.loop c) Q τ h :=
 AW_loop (fun x=>look (S x)) H inv μ x0 h0 (Rel_sub hs hh) fun x hx=>AW_mono (round x hx) fun e τ' h' hq=>by
  cases e with
  | normal=>obtain ⟨y,junk,h1,h2,h3,h4,h5,h6,h7⟩:=hq;exact ⟨y,h1,h2,Rel_cut h5 h3 h6 h4 h7⟩
  | _=>exact hq
theorem qDm {c:Code} {l:List (Nat×AV)} {h':List AObj} (hs:SubL τ l) (hh:HLe h h') (hc:AW P E N c Q (look l) h'):AW P E N c Q τ h:=AW_sub (Rel_sub hs hh) hc
theorem AW_acquire {c:Code} {l:List (Nat×AV)} (t sz:Nat) {es:List (List Dat)} (ht:look l t=.sl sz es .full∨(look l t=.nils∧es=[]))
  (hc:AW P E N c Q (look ((t,.sl sz es (.right h.length))::l)) (h++[.right sz es.length])):AW P E N c Q (look l) h:=AW_sub (Rel_acquire ht) hc
theorem AW_cut {c:Code} {l:List (Nat×AV)} (h' junk:List AObj) (hb:E.below h'.length) (hs:SubL τ l) (hls:lowS h'.length l=true) (hh:HLe h (h'++junk)) (hlh:lowH h'.length h'=true) (hc:AW P E N c Q (look l) h'):AW P E N c Q τ h :=
 AW_sub (Rel_cut hb hs hls hh hlh) hc
theorem qAo {c:Code} (hc:AW P E N c Q τ (h++[.room])):AW P E N c Q τ h:=AW_sub Rel_room hc
theorem qBh {c:Code} {l:List (Nat×AV)} (t sz i:Nat) {es:List (List Dat)} (ht:look l t=.sl sz es .full∨(look l t=.nils∧es=[])) (hi:h[i]?=some .room)
  (hc:AW P E N c Q (look ((t,.sl sz es (.right i))::l)) (h.set i (.right sz es.length))):AW P E N c Q (look l) h:=AW_sub (Rel_acquireAt ht hi) hc
theorem qBa {x y:Code} {ι:Type} (S:ι→List (Nat×AV)) (H:ι→List AObj) (inv:ι→Prop) (hx:AW P E N x (thenA (fun τ' h'=>∃ i,inv i∧SubL τ' (S i)∧HLe h' (H i)) Q) τ h) (hy:∀ i,inv i→AW P E N y Q (look (S i)) (H i)) :
  AW P E N (.seq x y) Q τ h:=by
 refine qAu (AW_mono hx fun e τ' h' hq=>?_)
 cases e with
 | normal=>obtain ⟨i,h1,h2,h3⟩:=hq;exact qDm h2 h3 (hy i h1)
 | _=>exact hq
theorem qAa {c:Operand} {x y:Code} {b:Bool} (hc:ev τ c=.d (.bool b)) (ht:b=true→AW P E N x Q τ h) (hf:b=false→AW P E N y Q τ h):AW P E N (.cond c x y) Q τ h :=
 AW_cond (fun G v=>ofVal_ok G v) hc ht hf
end
end Tdoc
namespace Tdoc
open Go
theorem qAe {n:Int} (h : -9223372036854775808≤n∧n≤9223372036854775807):IntKind.i64.wrap n=n:=by
 simp [IntKind.wrap,IntKind.signed,IntKind.bits];omega
theorem strAt_get {s:List UInt8} {i:Nat} (h:i < s.length):strAt s (i:Int)=(s[i].toNat:Int):=by simp [strAt,h]
theorem byte_eq {c d:UInt8}:((c.toNat:Int)=(d.toNat:Int))↔c=d:=by
 rw [Int.ofNat_inj];exact UInt8.toNat_inj
theorem qAg {T:Tr} {rs:List ResultVar} {k:Nat} {Q:AV→List AObj→Prop} {τ:Nat→AV} {h h':List AObj} {v r:AV} (h1:resA T τ h rs=some v) (h2:AV.le v r) (h3:h'=h.take k) (h4:h'.length=k) (h5:low k r=true) (h6:lowH k h'=true) (h7:Q r h') :
  retP T rs k Q .ret τ h:=⟨v,r,h',h1,h2,h3,h4,h5,h6,h7⟩
theorem ret_exactN {T:Tr} {rs:List ResultVar} {k:Nat} {Q:AV→List AObj→Prop} {τ:Nat→AV} {h h':List AObj} {v r:AV} (h1:resA T τ h rs=some v) (h2:AV.le v r) (h3:h'=h.take k) (h4:h'.length=k) (h5:low k r=true) (h6:lowH k h'=true) (h7:Q r h') :
  retP T rs k Q .normal τ h:=⟨v,r,h',h1,h2,h3,h4,h5,h6,h7⟩
theorem lowH_mono {k k':Nat} (hk:k≤k'):∀ (l:List AObj),lowH k l=true→lowH k' l=true
 | [],_=>rfl
 | o::l,h=>by
  simp only [lowH,Bool.and_eq_true] at h ⊢
  refine ⟨?_,lowH_mono hk l h.2⟩
  cases o with
  | row cells=>exact lowL_mono hk cells h.1
  | buf sz n cells=>exact lowL_mono hk cells h.1
  | _=>rfl
theorem callS1 {P:Program} {E:Env} {o:Oper} {ρ:Operand→AV} {H:List AObj} {f:Operand} {as:List Operand} {ats:Array TypeId} {g:FuncId} {first cap:List AV} (ho:o.op=.call ⟨.value f,as.toArray,ats⟩) (hf:ρ f=.fn (.func g) first cap)
  {args:List AV} {hc h0:List AObj} {r0:AV} (S:Spec P g args hc (fun r h'=>r=r0∧h'=h0)) (fs:List Nat) (hnd:fs.Nodup)
  (hobj:fs.map (fun j=>H[j]?)=hc.map some) (hargs:first++(as.map ρ++cap)=renL (fsf fs) args) (hla:lowL fs.length args=true) (hlow:lowH 0 hc=true) (hlow':lowH 0 h0=true) (hr0:ren (fsf fs) r0=r0)
  {H':List AObj} (hH:updH H fs h0=H'):OpS P E o ρ H r0 H' :=
 callS ho hf S fs hnd (by rw [hobj];have:=renH_low (fsf fs) hc hlow;rw [show hc.map (fun o=>some (renO (fsf fs) o))=(hc.map (renO (fsf fs))).map some by simp,this]) (lowH_mono (Nat.zero_le _) hc hlow) hargs hla hr0
  (by rw [renH_low (fsf fs) h0 hlow'];exact hH)
theorem eqNil_ok {P:Program} {E:Env} {T:Tr} {o:Oper} {ρ:Operand→AV} {h:List AObj} (hT:TOk P T) (hρ:∀ z,ρ (.const z)=ofVal z) {t yt sz:Nat} {x:Operand} {es:List (List Dat)} (ho:o.op=.binOp .eql t x (.const (.slice none 0 0)) yt)
  (ht:isSliceT T t=true) (hx:asEs (ρ x)=some (sz,es)):OpR P E o ρ h (fun v h'=>h'=h∧∃ b,v=.d (.bool b)∧(b=true→es=[])):=by
 intro G a w hw hr
 have hx':=asEs_ok (hr x (by simp [ho,Op.operands])) hx
 have hy':RepA G (ρ (.const (.slice none 0 0))) (a.eval (.const (.slice none 0 0))):=hr _ (by simp [ho,Op.operands])
 obtain ⟨et,hu⟩:=und_of_slice hT ht
 obtain ⟨p,cap,hv,hn,hp⟩:=hx'.slice_inv
 have hcn:a.eval (.const (.slice none 0 0))=.slice none 0 0:=rfl
 have hrun:∃ b,(execOp a.eval o).run P w=.ok (.value (.bool b)) w∧(b=true→es=[]):=by
  have hg:∀ q:Option Addr,(eqGuard .eql t x (.const (.slice none 0 0)) (.slice q es.length cap) (.slice none 0 0)).run P w=.ok () w:=fun q=>eqGuard_run _ _ _ _ _ _ (by simp) (by simp)
  cases p with
  | none =>
   refine ⟨true,?_,fun _=>(hn rfl).1⟩
   have he:(Op.equal t (.slice none es.length cap) (.slice none 0 0)).run P w=.ok true w:=by
    show (Op.equalIn (9999+1) t _ _).run P w=_
    rw [Op.equalIn]
    simp [run_underlying hu]
   unfold execOp
   simp only [ho,Sem.run_bind]
   rw [hv,hcn,hg]
   simp [Go.binOp,he]
  | some q =>
   refine ⟨false,?_,fun hb=>by cases hb⟩
   have he:(Op.equal t (.slice (some q) es.length cap) (.slice none 0 0)).run P w=.ok false w:=by
    show (Op.equalIn (9999+1) t _ _).run P w=_
    rw [Op.equalIn]
    simp [run_underlying hu]
   unfold execOp
   simp only [ho,Sem.run_bind]
   rw [hv,hcn,hg]
   simp [Go.binOp,he]
 obtain ⟨b,h1,h2⟩:=hrun
 unfold Oper.wp
 rw [h1]
 exact ⟨.bool b,G,.d (.bool b),h,⟨rfl,b,rfl,h2⟩,rfl,.refl G,hw,.d (.bool b)⟩
theorem Rel_acquireH {E:Env} {N:Nat} {τ:Nat→AV} {h:List AObj} (i off j sz:Nat) {es:List (List Dat)} {cells:List AV} (hi:h[i]?=some (.row cells)) (hc:cells[off]?=some (.sl sz es .full)) (hj:h[j]?=some .room) :
  ∀ a w,Rel E N τ h a w→Rel E N τ ((h.set j (.right sz es.length)).set i (.row (cells.set off (.sl sz es (.right j))))) a w:=by
 rintro a w ⟨h1,h2,G,hw,hr⟩
 have hij:j≠i:=fun hh=>by rw [hh,hi] at hj;cases hj
 obtain ⟨b,b1,b2,b3,b4⟩:=hw.obj i _ hi
 obtain ⟨v,v1,v2,v3,v4⟩:=b3 off _ hc
 obtain ⟨p,rfl,hrep⟩:∃ p,v=.slice p es.length es.length∧RepD G.imm (.sl sz es) v:=by
  cases v3 with
  | sl r k=>obtain ⟨p,rfl⟩:=k;exact ⟨p,rfl,r⟩
 obtain ⟨hle,hw1,hrs⟩:=hw.acquire hj hrep
 refine ⟨h1,h2,_,⟨hw1.le,hw1.imm,hw1.immNew,hw1.keep,hw1.size,hw1.os,hw1.tape,hw1.output,hw1.own,fun k hk=>hw1.fresh k (by simpa using hk),fun k o hk=>?_⟩,fun t=>(hr t).mono hle⟩
 rw [List.getElem?_set] at hk
 split at hk
 ·rename_i e;subst e
  split at hk
  ·cases hk
   have hio:(h.set j (.right sz es.length))[i]?=some (.row cells):=by rw [List.getElem?_set_ne hij];exact hi
   obtain ⟨b',c1,c2,c3,c4⟩:=hw1.obj i _ hio
   refine ⟨b',c1,c2,fun q c hq=>?_,c4⟩
   rw [List.getElem?_set] at hq
   split at hq
   ·rename_i e2;subst e2
    split at hq
    ·cases hq
     obtain ⟨u,u1,u2,u3,u4⟩:=c3 off _ hc
     have hbb:b'=b:=by
      have hl2:(acqG G j es.length p).loc i=G.loc i:=rfl
      rw [hl2,b1] at c1;cases c1;rfl
     subst hbb
     exact ⟨_,v1,v2,hrs,v4⟩
    ·cases hq
   ·exact c3 q c hq
  ·cases hk
 ·exact hw1.obj k o hk
theorem qDn {P:Program} {E:Env} {N:Nat} {Q:Exit→(Nat→AV)→List AObj→Prop} {τ:Nat→AV} {h:List AObj} {c:Code} (i off j sz:Nat) {es:List (List Dat)} {cells:List AV} (hi:h[i]?=some (.row cells)) (hc:cells[off]?=some (.sl sz es .full)) (hj:h[j]?=some .room)
  (hw:AW P E N c Q τ ((h.set j (.right sz es.length)).set i (.row (cells.set off (.sl sz es (.right j)))))):AW P E N c Q τ h:=AW_sub (Rel_acquireH i off j sz hi hc hj) hw
end Tdoc
namespace Tdoc
open Go
theorem sd {C:Prop} (h:C:=by first | exact True.intro | exact (fun hh=>hh) | omega | assumption | (intro hh;rw [hh];rfl) | (intro hh;simp [gval,hh];done) | (simp;omega)):C:=h
theorem sg {ex:Bool} {A C:Prop} (hg:ex=true) (h1:A:=by first | exact True.intro | exact ⟨hg,True.intro⟩ | exact ⟨hg,hg,True.intro⟩ | (refine ⟨?_,True.intro⟩;simp at hg;simp [hg];done) | (refine ⟨?_,?_,True.intro⟩ <;> (simp at hg;simp [hg];done))) (h2:C:=by first | exact True.intro | (intro hh;rw [hg,hh];rfl) | (intro hh;simp [gval,hh,hg];done) | (intro hh;simp only [gval,hh,hg,Bool.not_false,Bool.not_true,Bool.and_true,Bool.true_and];done) | (intro hh;simp only [gval] at hg;simp only [gval,hh,hg,Bool.not_false,Bool.and_true,Bool.true_and];done) | (simp [gval] at hg;first | omega | (simp;done) | (simp;omega))):A∧C:=⟨h1,h2⟩
theorem sm {C:Prop} (h:C:=by first | (simp;done) | exact List.mem_cons_self | exact List.mem_cons_of_mem _ List.mem_cons_self):C:=h
section
variable {P:Program} {E:Env} {N:Nat} {T:Tr} {ops:List Oper} {rest:List Oper} {op:Op} {ty:TypeId} {pos:String} {after:Array Edge} {l:List (Nat×AV)} {h h':List AObj} {v:AV} {C:Prop}
theorem wd (hT:TOk P T) {n:Nat} {Q:(Nat→AV)→List AObj→Prop} {i d:Nat} (hs:astep T op (ev (look l)) h=some (v,h,C)) (hd:Nat.blt d N=true) (hn:h.length=n) (hk:AWd P E N ops (fun _=>List.range n) (fun _=>[]) Q rest (i+1) (look ((d,v)::l)) h)
  (hC:C:=by first | exact True.intro | omega | exact sd):AWd P E N ops (fun _=>List.range n) (fun _=>[]) Q (⟨some d,op,ty,pos,after,none⟩::rest) i (look l) h:=AWd_step hT hs hd hn hC hk
theorem wk (hT:TOk P T) {Q:(Nat→AV)→List AObj→Prop} {d:Nat} (hs:astep T op (ev (look l)) h=some (v,h',C)) (hd:Nat.blt d N=true) (hk:AWk P E N ops Q rest (look ((d,v)::l)) h')
  (hC:C:=by first | exact True.intro | omega | exact sd):AWk P E N ops Q (⟨some d,op,ty,pos,after,none⟩::rest) (look l) h:=qCa hT hs hd hC hk
theorem wz (hT:TOk P T) {Q:(Nat→AV)→List AObj→Prop} (hs:astep T op (ev (look l)) h=some (v,h',C)) (hk:AWk P E N ops Q rest (look l) h')
  (hC:C:=by first | exact True.intro | omega | exact sd):AWk P E N ops Q (⟨none,op,ty,pos,after,none⟩::rest) (look l) h:=AWk_step0 hT hs hC hk
theorem wg (hT:TOk P T) {n:Nat} {Q:(Nat→AV)→List AObj→Prop} {i d j gd:Nat} {want ex:Bool} (hg:gslot ops l j want=some (gd,ex)) (hs:astep T op (evG (look l) op) h=some (v,h,C)) (hd:Nat.blt d N=true) (hgd:Nat.blt gd N=true) (hn:h.length=n)
  (hk:AWd P E N ops (fun _=>List.range n) (fun _=>[]) Q rest (i+1) (look ((d,.gd ex v)::l)) h) (hC:ex=true→gAll (look l) (gOps op)∧C:=by intro hg;first | exact ⟨True.intro,True.intro⟩ | exact sg hg) :
  AWd P E N ops (fun _=>List.range n) (fun _=>[]) Q (⟨some d,op,ty,pos,after,some (j,want)⟩::rest) i (look l) h:=AWd_gstep hT hg hs hd hgd hn hC hk
theorem wh (hT:TOk P T) {Q:(Nat→AV)→List AObj→Prop} {d j gd:Nat} {want ex:Bool} (hg:gslot ops l j want=some (gd,ex)) (hs:astep T op (evG (look l) op) h=some (v,h,C)) (hd:Nat.blt d N=true) (hgd:Nat.blt gd N=true)
  (hk:AWk P E N ops Q rest (look ((d,.gd ex v)::l)) h) (hC:ex=true→gAll (look l) (gOps op)∧C:=by intro hg;first | exact ⟨True.intro,True.intro⟩ | exact sg hg) :
  AWk P E N ops Q (⟨some d,op,ty,pos,after,some (j,want)⟩::rest) (look l) h:=AWk_gstep hT hg hs hd hgd hC hk
theorem wx {id:Nat} {Q:Exit→(Nat→AV)→List AObj→Prop} {τ:Nat→AV} (hm:P.follows .mixedOrders=true) (H:AWd P E N ops (fun _=>List.range h.length) (fun _=>[]) (Q .normal) ops 0 τ h)
  (hB:lexD ops.toArray (fun _=>List.range h.length) (fun _=>[]) ops.length 0 (Array.replicate ops.length false)=true:=by kernel_rfl):AW P E N (.region id ops.toArray true) Q τ h:=AW_draw hm hB H
variable {rs:List ResultVar} {k:Nat} {Q:AV→List AObj→Prop} {τ:Nat→AV} {r:AV}
theorem rx (h7:Q v h') (h1:resA T τ h rs=some v:=by exact rfl) (h3:h'=h.take k:=by exact rfl) (h4:h'.length=k:=by exact rfl) (h5:low k v=true:=by exact rfl) (h6:lowH k h'=true:=by exact rfl):retP T rs k Q .ret τ h:=⟨v,v,h',h1,fun _ _ h=>h,h3,h4,h5,h6,h7⟩
theorem rxN (h7:Q v h') (h1:resA T τ h rs=some v:=by exact rfl) (h3:h'=h.take k:=by exact rfl) (h4:h'.length=k:=by exact rfl) (h5:low k v=true:=by exact rfl) (h6:lowH k h'=true:=by exact rfl):retP T rs k Q .normal τ h:=⟨v,v,h',h1,fun _ _ h=>h,h3,h4,h5,h6,h7⟩
theorem rq (h7:Q r h') (h1:resA T τ h rs=some v) (h2:AV.le v r) (h3:h'=h.take k:=by exact rfl) (h4:h'.length=k:=by exact rfl) (h5:low k r=true:=by exact rfl) (h6:lowH k h'=true:=by exact rfl):retP T rs k Q .ret τ h:=⟨v,r,h',h1,h2,h3,h4,h5,h6,h7⟩
theorem rqN (h7:Q r h') (h1:resA T τ h rs=some v) (h2:AV.le v r) (h3:h'=h.take k:=by exact rfl) (h4:h'.length=k:=by exact rfl) (h5:low k r=true:=by exact rfl) (h6:lowH k h'=true:=by exact rfl):retP T rs k Q .normal τ h:=⟨v,r,h',h1,h2,h3,h4,h5,h6,h7⟩
end
theorem li {k:IntKind} {a b:Int} (h:a=b:=by first | assumption | omega | (rw [qAe (by omega)];omega) | (simp only [qAe (by omega)];omega)):AV.le (.d (.int k a)) (.d (.int k b)):=.eq (congrArg (fun z=>AV.d (.int k z)) h)
theorem lb {a b:Bool} (h:a=b:=by first | assumption | (simp;done) | (simp;omega)):AV.le (.d (.bool a)) (.d (.bool b)):=.eq (congrArg (fun z=>AV.d (.bool z)) h)
theorem ls {sz:Nat} {a b:List (List Dat)} (h:a=b:=by first | assumption | (simp;done)):AV.le (.d (.sl sz a)) (.d (.sl sz b)):=.eq (congrArg (fun z=>AV.d (.sl sz z)) h)
theorem lk {sz:Nat} {a b:List (List Dat)} {t:Tok} (h:a=b:=by first | assumption | (simp;done)):AV.le (.sl sz a t) (.sl sz b t):=.eq (congrArg (fun z=>AV.sl sz z t) h)
theorem ld {sz:Nat} {a b:List (List Dat)} {t:Tok} (h:a=b:=by first | assumption | (simp;done)):AV.le (.sl sz a t) (.d (.sl sz b)):=.trans .dat (.eq (congrArg (fun z=>AV.d (.sl sz z)) h))
theorem lz {a b:List UInt8} (h:a=b:=by first | assumption | (simp;done)):AV.le (.d (.str a)) (.d (.str b)):=.eq (congrArg (fun z=>AV.d (.str z)) h)
end Tdoc
namespace Tdoc
open Go
section
variable {P:Program} {E:Env} {T:Tr} {o:Oper} {ρ:Operand→AV} {h h':List AObj} {v:AV}
def elemT (T:Tr) (t:Nat):Option (Nat×Nat×List AV):=match T.find t with
 | some i=>match i.kind with
  | .slice e=>match T.find e with
   | some ie=>match Nat.beq ie.zero.length ie.size with
    | true=>some (ie.size,ie.bytes,ie.zero)
    | false=>none
   | none=>none
  | _=>none
 | none=>none
theorem elemT_ok (hT:TOk P T) {t sz by_:Nat} {z:List AV} (h:elemT T t=some (sz,by_,z)) :
  ∃ e ie,P.underlying t=some (.slice e)∧TypeAt P e ie∧ie.size=sz∧ie.bytes=by_∧ie.zero=z∧z.length=sz:=by
 unfold elemT at h
 split at h
 ·rename_i i hi
  split at h
  ·rename_i e hk
   split at h
   ·rename_i ie hie
    split at h
    ·rename_i hb
     cases h
     obtain ⟨d,hd,hkd⟩:=(hT.at hi).und
     rw [hk] at hkd
     cases d <;> simp [kindOk] at hkd
     subst hkd
     exact ⟨e,ie,hd,hT.at hie,rfl,rfl,rfl,Nat.eq_of_beq_eq_true hb⟩
    ·cases h
   ·cases h
  ·cases h
 ·cases h
theorem RepA.row_inv {G:Gh} {v:Value} {i off n cap:Nat} (h:RepA G (.row i off n cap) v):∃ b,v=.slice (some ⟨b,off,none⟩) n cap∧G.loc i=some b:=by cases h with | row _ _ _ r=>exact ⟨_,rfl,r⟩
theorem flat_repl {α:Type} (z:List α):∀ (n j:Nat),(List.replicate n z).flatten[j]?=if j < n*z.length then z[j % z.length]? else none
 | 0,j=>by simp
 | n+1,j=>by
  rw [List.replicate_succ,List.flatten_cons]
  by_cases hj:j < z.length
  ·rw [List.getElem?_append_left hj,Nat.mod_eq_of_lt hj]
   rw [if_pos (by rw [Nat.succ_mul];omega)]
  ·rw [List.getElem?_append_right (by omega),flat_repl z n]
   rw [Nat.succ_mul,Nat.mod_eq_sub_mod (a:=j) (by omega)]
   by_cases h1:j-z.length < n*z.length
   ·rw [if_pos h1,if_pos (by omega)]
   ·rw [if_neg h1,if_neg (by omega)]
theorem makeRow_ok (hT:TOk P T) {t sz by_:Nat} {z:List AV} {x y:Operand} {k k':IntKind} {n:Nat} (ho:o.op=.makeSlice t x y) (he:elemT T t=some (sz,by_,z)) (hx:ρ x=.d (.int k (n:Int))) (hy:ρ y=.d (.int k' (n:Int)))
  (hb:by_*n≤281474976710656) (h63:n≤9223372036854775807) :
  OpS P E o ρ h (.row h.length 0 n n) (h++[.row (List.replicate n z).flatten]) :=
 qBi fun G e w hw hr=>by
  have hx':RepA G (ρ x) (e x):=hr x (by simp [ho,Op.operands])
  have hy':RepA G (ρ y) (e y):=hr y (by simp [ho,Op.operands])
  rw [hx] at hx';rw [hy] at hy'
  obtain ⟨et,ie,h1,h2,h3,h4,h5,h6⟩:=elemT_ok hT he
  obtain ⟨info,g1,g2,g3,zv,g4,g5⟩:=h2.info
  obtain ⟨hl,hc⟩:=zrepL_ok g5
  have hzs:zv.cells.size=sz:=by
   have:zv.cells.toList.length=ie.zero.length:=hl.symm▸rfl
   simp only [Array.length_toList] at this
   rw [this,h5,h6]
  have hbb:(info.bytes:Int)*(n:Int)≤281474976710656:=by
   have:info.bytes*n≤281474976710656:=by rw [g3,h4];exact hb
   have h9:((info.bytes*n:Nat):Int)≤281474976710656:=by omega
   rwa [Int.natCast_mul] at h9
  have hrun:=run_make (P:=P) w t et info zv h1 g1 g4 k k' (n:Int) (n:Int) (by omega) (Int.le_refl _) hbb (by omega)
  simp only [Int.toNat_natCast] at hrun
  have hinfo:info.size=sz:=by rw [g2,h3]
  have hcells:∀ (j:Nat) (c:AV) (u:Value),((List.replicate n z).flatten)[j]?=some c→(madeCells zv.cells (n*info.size))[j]?=some u→RepA G c u∧oneC u=true:=by
   intro j c u h7 h8
   rw [flat_repl,h6] at h7
   split at h7
   ·rename_i hj
    have hlt:j % sz < zv.cells.size:=by
     rw [hzs]
     exact Nat.mod_lt _ (by rcases Nat.eq_zero_or_pos sz with h0 | h0;(subst h0;simp at hj);exact h0)
    simp only [madeCells,Array.getElem?_map,Option.map_eq_some_iff] at h8
    obtain ⟨q,hq,rfl⟩:=h8
    have hjq:q=j:=by
     have hh:=hq
     rw [Array.getElem?_eq_some_iff] at hh
     obtain ⟨_,hh⟩:=hh
     simpa using hh.symm
    subst hjq
    rw [hzs,getElem!_pos zv.cells (q % sz) hlt]
    exact hc G _ c _ (by rw [h5];exact h7) (by simp [hlt])
   ·cases h7
  have hn:=hw.newRow (madeCells zv.cells (n*info.size)) et (List.replicate n z).flatten (by rw [size_madeCells,List.length_flatten,List.map_replicate,List.sum_replicate_nat,h6,hinfo])
   hcells { w with heap:=w.heap.push (.cells (madeCells zv.cells (n*info.size)) et) } rfl rfl rfl rfl
  refine ⟨.slice (some ⟨w.heap.size,0,none⟩) n n,_,_,?_,hn.1,hn.2,.row 0 n n ?_⟩
  ·unfold execOp
   simp only [ho,hx'.int_inv,hy'.int_inv,Sem.run_bind,hrun,Result.andThen_ok]
   rfl
  ·show (if h.length=h.length then _ else _)=_;simp
theorem rowAddr_ok (hT:TOk P T) {t sz i off n cap:Nat} {x ix:Operand} {k:IntKind} {j:Int} (ho:o.op=.indexAddr t x ix) (hs:sliceElem T t sz=true)
  (hx:ρ x=.row i off n cap) (hix:ρ ix=.d (.int k j)) (h0:0≤j∧j < (n:Int)):OpP P o ρ (.ptr i (off+j.toNat*sz)):=by
 intro G e w hi hr
 have hx':RepA G (ρ x) (e x):=hr x (by simp [ho,Op.operands])
 have hix':RepA G (ρ ix) (e ix):=hr ix (by simp [ho,Op.operands])
 rw [hx] at hx';rw [hix] at hix'
 obtain ⟨et,ie,h1,h2,h3⟩:=qDo hT hs
 obtain ⟨b,hv,hl⟩:=hx'.row_inv
 refine ⟨.pointer (some ⟨b,off+j.toNat*sz,none⟩),?_,.ptr _ hl⟩
 unfold execOp
 simp only [ho,Sem.run_bind]
 rw [hv,hix'.int_inv]
 simp [Instr.indexAt,asIntOf,run_underlying h1,h0.1,h0.2,h2.run_size,h3,qDb]
theorem store1_ok (hT:TOk P T) {t i off:Nat} {ti:TI} {x y:Operand} {cells:List AV} (ho:o.op=.store t x y) (hx:ρ x=.ptr i off) (hi:h[i]?=some (.row cells)) (hf:T.find t=some ti) (hsz:Nat.beq ti.size 1=true)
  (hs:scalarA (ρ y)=true) (hlt:off < cells.length):OpS P E o ρ h .any (h.set i (.row (cells.set off (ρ y)))):=by
 refine store_ok hT ho hx hi ?_
 have hc:cellsA (ρ y)=some [ρ y]:=by
  generalize ρ y=a at hs ⊢
  cases a <;> first | rfl | cases hs
 have h1:=Nat.eq_of_beq_eq_true hsz
 have h2:Nat.ble (off+1) cells.length=true:=Nat.ble_eq_true_of_le hlt
 simp [storeA,hf,hc,h1,h2,setRun]
theorem qBd (hT:TOk P T) {t i off:Nat} {ti:TI} {x:Operand} {cells:List AV} (ho:o.op=.load t x) (hx:ρ x=.ptr i off) (hi:h[i]?=some (.row cells)) (hf:T.find t=some ti) (ha:ti.agg=false)
  (hv:cells[off]?=some v):OpS P E o ρ h v h:=by
 refine qDj hT ho hx hi ?_
 simp [loadA,hf,ha,hv]
theorem rowCut_ok (hT:TOk P T) {t sz i off n cap:Nat} {x:Operand} {lo hi:Option Operand} {l r:Nat} (ho:o.op=.slice t x lo hi none) (hs:sliceElem T t sz=true) (hx:ρ x=.row i off n cap)
  (hlo:match lo with | none=>l=0 | some y=>∃ k,ρ y=.d (.int k (l:Int))) (hhi:match hi with | none=>r=n | some y=>∃ k,ρ y=.d (.int k (r:Int))) (hle:l≤r) (hc:r≤cap) :
  OpP P o ρ (.row i (if cap=l then off else off+l*sz) (r-l) (cap-l)):=by
 intro G e w hi' hr
 have hx':RepA G (ρ x) (e x):=hr x (by simp [ho,Op.operands])
 rw [hx] at hx'
 obtain ⟨et,ie,h1,h2,h3⟩:=qDo hT hs
 obtain ⟨b,hv,hl⟩:=hx'.row_inv
 have hlo':match lo with | none=>l=0 | some y=>∃ k,e y=.int k (l:Int):=by
  cases lo with
  | none=>exact hlo
  | some y =>
   obtain ⟨k,hk⟩:=hlo
   have:=hr y (by simp [ho,Op.operands])
   rw [hk] at this
   exact ⟨k,this.int_inv⟩
 have hhi':match hi with | none=>r=n | some y=>∃ k,e y=.int k (r:Int):=by
  cases hi with
  | none=>exact hhi
  | some y =>
   obtain ⟨k,hk⟩:=hhi
   have:=hr y (by simp [ho,Op.operands])
   rw [hk] at this
   exact ⟨k,this.int_inv⟩
 have hb1:(0:Int)≤(r:Int)∧(r:Int)≤(cap:Int):=by omega
 have hb2:(0:Int)≤(l:Int)∧(l:Int)≤(r:Int):=by omega
 refine ⟨.slice (some ⟨b,if cap=l then off else off+l*sz,none⟩) (r-l) (cap-l),?_,.row _ _ _ hl⟩
 unfold execOp
 simp only [ho,Sem.run_bind]
 rw [hv]
 have haddr:(if cap=l then some (⟨b,off,none⟩:Addr) else some ((⟨b,off,none⟩:Addr).add (l*sz)))=some ⟨b,if cap=l then off else off+l*sz,none⟩:=by
  split
  ·rfl
  ·rw [qDb]
 cases lo with
 | none =>
  simp only at hlo';subst hlo'
  cases hi with
  | none =>
   simp only at hhi';subst hhi'
   by_cases hcl:cap=0
   ·subst hcl;simp [Instr.sliceAt,Instr.slice,run_underlying h1,Instr.sliceBounds,h2.run_size,h3]
   ·simp [Instr.sliceAt,Instr.slice,run_underlying h1,Instr.sliceBounds,h2.run_size,h3,hcl,qDb]
  | some y =>
   obtain ⟨k,hk⟩:=hhi'
   by_cases hcl:cap=0
   ·have hr0:r=0:=by omega
    subst hcl;subst hr0
    have hb3:=fun (w:World)=>qBf (P:=P) (w:=w) k ((0:Nat):Int) 0 .sliceAcap hb1
    simp only [Int.natCast_zero,Int.toNat_zero] at hb3
    simp [Instr.sliceAt,Instr.slice,run_underlying h1,Instr.sliceBounds,h2.run_size,h3,hk,hb3]
   ·simp [Instr.sliceAt,Instr.slice,run_underlying h1,Instr.sliceBounds,h2.run_size,h3,hk,qBf _ _ _ _ hb1,hcl,qDb]
 | some yl =>
  obtain ⟨kl,hkl⟩:=hlo'
  cases hi with
  | none =>
   simp only at hhi';subst hhi'
   by_cases hcl:cap=l
   ·have:r=l:=by omega
    subst hcl;subst this;simp [Instr.sliceAt,Instr.slice,run_underlying h1,Instr.sliceBounds,h2.run_size,h3,hkl,qBf _ _ _ _ hb2]
   ·simp [Instr.sliceAt,Instr.slice,run_underlying h1,Instr.sliceBounds,h2.run_size,h3,hkl,qBf _ _ _ _ hb2,hcl,qDb]
  | some y =>
   obtain ⟨k,hk⟩:=hhi'
   by_cases hcl:cap=l
   ·have:r=l:=by omega
    subst hcl;subst this;simp [Instr.sliceAt,Instr.slice,run_underlying h1,Instr.sliceBounds,h2.run_size,h3,hkl,hk,qBf _ _ _ _ hb1,qBf _ _ _ _ hb2]
   ·simp [Instr.sliceAt,Instr.slice,run_underlying h1,Instr.sliceBounds,h2.run_size,h3,hkl,hk,qBf _ _ _ _ hb1,qBf _ _ _ _ hb2,hcl,qDb]
def byteAV (s:List UInt8):List AV:=s.map fun b=>.d (.int .u8 (b.toNat:Int))
theorem rowStr_ok (hT:TOk P T) {t t2 i off n cap:Nat} {x:Operand} {cells:List AV} {s:List UInt8} (ho:o.op=.convert t t2 x) (hb:(isByteSlice T t&&isStrT T t2)=true) (hx:ρ x=.row i off n cap) (hi:h[i]?=some (.row cells))
  (hs:s.length=n) (hc:∀ (j:Nat) (c:UInt8),s[j]?=some c→cells[off+j]?=some (.d (.int .u8 (c.toNat:Int)))):OpS P E o ρ h (.d (.str s)) h :=
 qBi fun G e w hw hr=>by
  have hx':RepA G (ρ x) (e x):=hr x (by simp [ho,Op.operands])
  rw [hx] at hx'
  obtain ⟨b,hv,hl⟩:=hx'.row_inv
  obtain ⟨b',hl',hown,hrow,himm⟩:=hw.obj i _ hi
  rw [hl] at hl';cases hl'
  simp only [Bool.and_eq_true] at hb
  obtain ⟨et,h1,h2⟩:=qCt hT hb.1
  have h3:=qCs hT hb.2
  let ns:List Int:=s.map fun c=>(c.toNat:Int)
  have hnl:ns.length=n:=by simp [ns,hs]
  have hld:(loadCells ⟨b,off,none⟩ n).run P w=.ok (ns.map (Value.int .u8)).toArray w:=by
   have:=run_loadCells (P:=P) w ⟨b,off,none⟩ n (fun j=>Value.int .u8 (ns.getD j 0)) (fun j hj=>by
    have hsj:s[j]?=some s[j]:=by simp [hs,hj]
    obtain ⟨u,u1,u2,u3,_⟩:=hrow _ _ (hc j _ hsj)
    rw [u3.int_inv] at u1
    rw [qDb,u1]
    simp [List.getD,ns,hs,hj])
   rw [this]
   congr 2
   apply List.ext_getElem?
   intro j
   by_cases hj:j < n
   ·have hj':j < ns.length:=by omega
    simp [hj,hj',List.getD]
   ·have hj':¬ j < ns.length:=by omega
    simp [hj,hj',List.getElem?_eq_none (Nat.le_of_not_lt hj')]
  refine ⟨.string ⟨s.toArray⟩,w,G,?_,.refl G,hw,.d (.str _)⟩
  unfold execOp
  simp only [ho,Sem.run_bind]
  rw [hv]
  have hmap:(ns.map fun n=>UInt8.ofNat n.toNat)=s:=by simp [ns,Function.comp_def]
  simp [Go.convert,run_underlying h1,run_underlying h2,run_underlying h3,run_bytesToString w _ n cap ns hld,foldl_push,hmap]
end
theorem WRel.freeze {E:Env} {G:Gh} {h:List AObj} {w:World} {i b:Nat} {cells:List AV} (hw:WRel E G h w) (hi:h[i]?=some (.row cells)) (hl:G.loc i=some b) :
  let G':Gh:={ G with imm:=fun a=>if a.block=b∧a.spot=none∧a.off < cells.length then w.cell? a else G.imm a }
  G.le G'∧WRel E G' (h.set i .dead) w∧∀ (j:Nat) (d:Dat) (c:AV),cells[j]?=some c→toDat c=some d→∃ u,G'.imm ⟨b,j,none⟩=some u∧RepD G'.imm d u:=by
 intro G'
 obtain ⟨b',hl',hown,hrow,himm⟩:=hw.obj i _ hi
 rw [hl] at hl';cases hl'
 have hle:G.le G':=by
  refine ⟨fun a v hv=>?_,fun _ _ h=>h,fun _ _ _ h=>h,fun _ _ h=>h⟩
  have hne:¬ (a.block=b∧a.spot=none∧a.off < cells.length):=fun hh=>by rw [himm.1 a hh.1] at hv;cases hv
  show (if _ then _ else _)=_
  rw [if_neg hne];exact hv
 refine ⟨hle,?_,fun j d c hc hd=>?_⟩
 ·refine ⟨hw.le.trans hle,fun a v hv=>?_,fun a v hv=>?_,hw.keep,hw.size,hw.os,hw.tape,hw.output,hw.own,fun k hk=>hw.fresh k (by simpa using hk),fun k o hk=>?_⟩
  ·simp only [G'] at hv
   split at hv
   ·exact hv
   ·exact hw.imm a v hv
  ·simp only [G'] at hv
   split at hv
   ·rename_i hh
    right;rw [hh.1];exact (hw.own b i hown).2
   ·exact hw.immNew a v hv
  ·rw [List.getElem?_set] at hk
   by_cases hik:i=k
   ·subst hik
    simp only [if_true] at hk
    split at hk
    ·cases hk;trivial
    ·cases hk
   ·rw [if_neg hik] at hk
    refine (hw.obj k o hk).keep hle (fun c hc=>⟨rfl,fun a ha=>?_⟩) (fun _ h=>h) (fun h=>h)
    have hcb:c≠b:=fun hh=>by subst hh;rw [hown] at hc;cases hc;exact hik rfl
    simp only [G']
    rw [if_neg (fun hh=>hcb (ha.symm.trans hh.1))]
 ·obtain ⟨u,u1,u2,u3,_⟩:=hrow j c hc
  refine ⟨u,?_,(toDat_ok u3 hd).mono hle.imm⟩
  simp only [G']
  have hlt:=(List.getElem?_eq_some_iff.1 hc).1
  simp [hlt,u1]
def RowDat (cells:List AV) (off sz:Nat) (es:List (List Dat)):Prop :=
 (∀ e,e∈es→e.length=sz)∧∀ (i:Nat) (e:List Dat) (j:Nat) (d:Dat),es[i]?=some e→e[j]?=some d→∃ c,cells[off+(i*sz+j)]?=some c∧toDat c=some d
theorem Rel_freeze {E:Env} {N:Nat} {l:List (Nat×AV)} {h:List AObj} {t i off n cap sz:Nat} {cells:List AV} {es:List (List Dat)} (ht:look l t=.row i off n cap) (hi:h[i]?=some (.row cells)) (hn:es.length=n) (hcap:n≤cap) (hd:RowDat cells off sz es) :
  ∀ a w,Rel E N (look l) h a w→Rel E N (look ((t,.d (.sl sz es))::l)) (h.set i .dead) a w:=by
 intro a w ⟨h1,h2,G,hw,hr⟩
 have hx:=hr t
 rw [ht] at hx
 obtain ⟨b,hv,hl⟩:=hx.row_inv
 obtain ⟨hle,hw',hc⟩:=hw.freeze hi hl
 refine ⟨h1,h2,_,hw',fun s=>?_⟩
 show RepA _ (bif Nat.beq s t then _ else look l s) _
 cases hb:Nat.beq s t with
 | false=>exact (hr s).mono hle
 | true =>
  obtain rfl:=Nat.eq_of_beq_eq_true hb
  rw [hv]
  subst hn
  have hex:∀ (k:Nat),∃ u:Value,∀ (i:Nat) (e:List Dat) (j:Nat) (d:Dat),es[i]?=some e→e[j]?=some d→i*sz+j=k →
    ({ G with imm:=fun a=>if a.block=b∧a.spot=none∧a.off < cells.length then w.cell? a else G.imm a }:Gh).imm ⟨b,off+k,none⟩=some u:=by
   intro k
   rcases hh:({ G with imm:=fun a=>if a.block=b∧a.spot=none∧a.off < cells.length then w.cell? a else G.imm a }:Gh).imm ⟨b,off+k,none⟩ with _ | u
   ·refine ⟨undef,fun i e j d he hj hk=>?_⟩
    obtain ⟨c,g1,g2⟩:=hd.2 i e j d he hj
    obtain ⟨u,g3,_⟩:=hc _ d c g1 g2
    rw [hk] at g3
    rw [hh] at g3;cases g3
   ·exact ⟨u,fun _ _ _ _ _ _ _=>rfl⟩
  refine .d (.sl sz es ⟨b,off,none⟩ cap (fun k=>Classical.choose (hex k)) rfl hcap hd.1 (fun i e j d he hj=>?_) (fun i e j d he hj=>?_))
  ·rw [qDb]
   exact Classical.choose_spec (hex (i*sz+j)) i e j d he hj rfl
  ·have:=Classical.choose_spec (hex (i*sz+j)) i e j d he hj rfl
   obtain ⟨c,g1,g2⟩:=hd.2 i e j d he hj
   obtain ⟨u,g3,g4⟩:=hc _ d c g1 g2
   have hu:=Option.some.inj (g3.symm.trans this)
   exact hu▸g4
theorem AW_freeze {P:Program} {E:Env} {N:Nat} {Q:Exit→(Nat→AV)→List AObj→Prop} {c:Code} {l:List (Nat×AV)} {h:List AObj} (t i sz:Nat) {off n cap:Nat} {cells:List AV} (es:List (List Dat)) (ht:look l t=.row i off n cap) (hi:h[i]?=some (.row cells))
  (hn:es.length=n) (hcap:n≤cap) (hd:RowDat cells off sz es) (hc:AW P E N c Q (look ((t,.d (.sl sz es))::l)) (h.set i .dead)):AW P E N c Q (look l) h :=
 AW_sub (Rel_freeze ht hi hn hcap hd) hc
end Tdoc
namespace Tdoc
open Go
section
variable {P:Program} {E:Env} {T:Tr} {o:Oper} {ρ:Operand→AV} {h h':List AObj} {v:AV}
theorem WRel.newRowAtW {G:Gh} {w:World} {i0:Nat} (hw:WRel E G h w) (hroom:h[i0]?=some .room) (cs:Array Value) (t:TypeId) (cells:List AV) (hs:cells.length≤cs.size)
  (hc:∀ (j:Nat) (c:AV) (u:Value),cells[j]?=some c→cs[j]?=some u→RepA G c u∧oneC u=true) (w':World) (hh:w'.heap=w.heap.push (.cells cs t)) (ho:w'.os=w.os) (ht:w'.tape=w.tape) (hout:w'.output=w.output) :
  G.le (rowNew G i0 w.heap.size)∧WRel E (rowNew G i0 w.heap.size) (h.set i0 (.row cells)) w':=by
 have hf:=hw.obj i0 _ hroom
 have hi0:i0 < h.length:=(List.getElem?_eq_some_iff.1 hroom).1
 have hown:G.own w.heap.size=none:=by
  cases ho:G.own w.heap.size with
  | none=>rfl
  | some i=>have:=(hw.own _ _ ho).1;omega
 have hle:G.le (rowNew G i0 w.heap.size):=by
  refine ⟨fun _ _ x=>x,fun i b x=>?_,fun _ _ _ x=>x,fun b i x=>?_⟩
  ·show (if i=i0 then some w.heap.size else G.loc i)=some b
   split
   ·rename_i e;subst e;rw [hf.1] at x;cases x
   ·exact x
  ·show (if b=w.heap.size then some i0 else G.own b)=some i
   split
   ·rename_i e;subst e;rw [hown] at x;cases x
   ·exact x
 have hK:¬ E.K w.heap.size:=fun hk=>by have:=hw.size;have:=hk.1;omega
 refine ⟨hle,hw.le.trans hle,fun a v ha=>?_,hw.immNew,fun b hb=>?_,by rw [hh];simp;have:=hw.size;omega,ho.trans hw.os,ht.trans hw.tape,hout.trans hw.output,fun b i hb=>?_,fun i hi=>?_,fun i ob hi=>?_⟩
 ·have hc:=hw.imm a v ha
  rw [World.cell?_of_block (w:=w) (by rw [hh];exact qAv _ _ _ (World.block_lt_of_cell? _ _ hc))]
  exact hc
 ·rw [hh,qAv _ _ _ (Nat.lt_of_lt_of_le hb.1 hw.size)];exact hw.keep b hb
 ·have hb':(if b=w.heap.size then some i0 else G.own b)=some i:=hb
  split at hb'
  ·rename_i e;subst e;exact ⟨by rw [hh];simp,hK⟩
  ·have:=hw.own b i hb';exact ⟨by rw [hh];simp;omega,this.2⟩
 ·simp only [List.length_set] at hi
  have:=hw.fresh i (by omega)
  refine ⟨?_,this.2⟩
  show (if i=i0 then some w.heap.size else G.loc i)=none
  rw [if_neg (by omega)];exact this.1
 ·rw [List.getElem?_set] at hi
  by_cases hie:i0=i
  ·subst hie
   simp only [if_true,hi0] at hi
   cases hi
   refine ⟨w.heap.size,?_,?_,fun j c hj=>?_,fun a ha=>?_,fun n=>hf.2 n⟩
   ·show (if i0=i0 then _ else _)=_;simp
   ·show (if w.heap.size=w.heap.size then _ else _)=_;simp
   ·have hjl:j < cs.size:=Nat.lt_of_lt_of_le (List.getElem?_eq_some_iff.1 hj).1 hs
    obtain ⟨u,hu⟩:∃ u,cs[j]?=some u:=⟨cs[j],by simp [hjl]⟩
    obtain ⟨r1,r2⟩:=hc j c u hj hu
    exact ⟨u,by simp [World.cell?,hh,hu],r2,r1.mono hle,by simp [World.frozen?,hh]⟩
   ·cases hg:G.imm a with
    | none=>exact hg
    | some v=>have:=World.block_lt_of_cell? _ _ (hw.imm a v hg);omega
  ·rw [if_neg hie] at hi
   refine (hw.obj i ob hi).keep hle (fun b hb=>?_) (fun n hn=>hn) (fun hn=>by show (if i=i0 then _ else G.loc i)=none;rw [if_neg (fun e=>hie e.symm)];exact hn)
   exact ⟨by rw [hh];exact qAv _ _ _ (hw.own b i hb).1,fun a ha=>rfl⟩
theorem WRel.newRowAt {G:Gh} {w:World} {i0:Nat} (hw:WRel E G h w) (hroom:h[i0]?=some .room) (cs:Array Value) (t:TypeId) (cells:List AV) (hs:cs.size=cells.length)
  (hc:∀ (j:Nat) (c:AV) (u:Value),cells[j]?=some c→cs[j]?=some u→RepA G c u∧oneC u=true) (w':World) (hh:w'.heap=w.heap.push (.cells cs t)) (ho:w'.os=w.os) (ht:w'.tape=w.tape) (hout:w'.output=w.output) :
  G.le (rowNew G i0 w.heap.size)∧WRel E (rowNew G i0 w.heap.size) (h.set i0 (.row cells)) w' :=
 hw.newRowAtW hroom cs t cells (Nat.le_of_eq hs.symm) hc w' hh ho ht hout
theorem allocAt_ok (hT:TOk P T) {t i0:Nat} {i:TI} (ho:o.op=.alloc t) (hf:T.find t=some i) (hroom:h[i0]?=some .room):OpS P E o ρ h (.ptr i0 0) (h.set i0 (.row i.zero)) :=
 qBi fun G e w hw hr=>by
  have hti:=hT.at hf
  obtain ⟨z,hz,hzc⟩:=hti.run_zero (w:=w)
  obtain ⟨hl,hc⟩:=zrepL_ok hzc
  have hn:=hw.newRowAt hroom z.cells t i.zero (by simp [hl]) (fun j c u h1 h2=>hc G j c u h1 (by simpa using h2)) { w with heap:=w.heap.push (.cells z.cells t) } rfl rfl rfl rfl
  refine ⟨.pointer (some ⟨w.heap.size,0,none⟩),_,_,?_,hn.1,hn.2,.ptr 0 ?_⟩
  ·unfold execOp
   simp [ho,Instr.alloc,hz,newVar,newRow]
  ·show (if i0=i0 then _ else _)=_;simp
theorem qCg {t i0:Nat} {x:Operand} {cs:List AV} (ho:o.op=.box t x) (hx:cellsA (ρ x)=some cs) (hroom:h[i0]?=some .room):OpS P E o ρ h (.ptr i0 0) (h.set i0 (.row cs)) :=
 qBi fun G e w hw hr=>by
  have hx':RepA G (ρ x) (e x):=hr x (by simp [ho,Op.operands])
  obtain ⟨hl,hc⟩:=cellsA_ok hx' hx
  have hn:=hw.newRowAt hroom (e x).cells t cs hl (fun j c u h1 h2=>hc j c u h1 h2) { w with heap:=w.heap.push (.cells (e x).cells t) } rfl rfl rfl rfl
  refine ⟨.pointer (some ⟨w.heap.size,0,none⟩),_,_,?_,hn.1,hn.2,.ptr 0 ?_⟩
  ·unfold execOp
   simp [ho,Instr.box,newVar,newRow]
  ·show (if i0=i0 then _ else _)=_;simp
theorem min2_ok {x y:Operand} {t1 t2:Array TypeId} {k:IntKind} {a b:Int} (ho:o.op=.call { callee:=.builtin .min,args:=#[x,y],argTypes:=t1 }) (hx:ρ x=.d (.int k a)) (hy:ρ y=.d (.int k b)):OpP P o ρ (.d (.int k (if b < a then b else a))):=by
 intro G e w hi hr
 have hx':RepA G (ρ x) (e x):=hr x (by simp [ho,Op.operands,Call.operands])
 have hy':RepA G (ρ y) (e y):=hr y (by simp [ho,Op.operands,Call.operands])
 rw [hx] at hx';rw [hy] at hy'
 refine ⟨.int k (if b < a then b else a),?_,.d (.int _ _)⟩
 unfold execOp
 simp [ho,resolve,invoke,builtin,hx'.int_inv,hy'.int_inv,run_min_int2 w]
end
theorem force_some {h h':List AObj} (hh:forceS h some=some h'):h'=h:=by rw [qDf] at hh;exact (Option.some.inj hh).symm
theorem AWk_opF {P:Program} {E:Env} {N:Nat} {ops:List Oper} {Q:(Nat→AV)→List AObj→Prop} {d:Nat} {op:Op} {ty:TypeId} {pos:String} {after:Array Edge} {rest:List Oper}
  {l:List (Nat×AV)} {h h1 h':List AObj} {v:AV} (hs:OpS P E ⟨some d,op,ty,pos,after,none⟩ (ev (look l)) h v h1) (hd:Nat.blt d N=true) (hh:forceS h1 some=some h') (hk:AWk P E N ops Q rest (look ((d,v)::l)) h') :
  AWk P E N ops Q (⟨some d,op,ty,pos,after,none⟩::rest) (look l) h:=by
 obtain rfl:=force_some hh
 exact qAd hs hd hk
theorem AWk_op0 {P:Program} {E:Env} {N:Nat} {ops:List Oper} {Q:(Nat→AV)→List AObj→Prop} {op:Op} {ty:TypeId} {pos:String} {after:Array Edge} {rest:List Oper}
  {l:List (Nat×AV)} {h h1 h':List AObj} {v:AV} (hs:OpS P E ⟨none,op,ty,pos,after,none⟩ (ev (look l)) h v h1) (hh:forceS h1 some=some h') (hk:AWk P E N ops Q rest (look l) h') :
  AWk P E N ops Q (⟨none,op,ty,pos,after,none⟩::rest) (look l) h:=by
 obtain rfl:=force_some hh
 exact ⟨_,⟨rfl,qDa hs⟩,fun v' h'' ⟨h1,h2⟩=>by subst h1;subst h2;exact hk⟩
end Tdoc
