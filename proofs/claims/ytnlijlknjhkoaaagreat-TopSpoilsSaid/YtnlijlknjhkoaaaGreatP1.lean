/-
  PART 1 of what law TopSettles leans on: plain lemmas and walks, of which each says its own condition.
-/
import Derived.Test.YtnlijlknjhkoaaaGreatRows
import Derived.WalkKit
import Derived.WalkSpells
import Derived.WalkLawsBesides
import Derived.Lib.Hide
import Derived.KernelRfl
import Derived.OneCell
import Derived.Laws.BytesArg
import Derived.Laws.IdiomStrings
import Derived.RangeFuncBox
import Derived.RangeFuncLeaves
import Derived.Laws.AppendOwnNone
import Derived.RegionTactic
import Derived.Laws.OwnMore
import Derived.Laws.CopyOwn
import Derived.ProofKit
import Derived.OpenShut
import Derived.Below
import Derived.Shelf.Small.Wraps
import Derived.Shelf.Strings.BuilderK
import Derived.Shelf.Slices.Turned
import Derived.Shelf.Bits.Mul64
import Derived.Test.YtnlijlknjhkoaaaGreatChecked
import Derived.OwnWalk
import Derived.Deep.RegionHeld3
import Derived.Outline
import Derived.Lib.Overlaps
import Derived.Lib.AppendZerosOnto
import Derived.Laws.Externs
import Derived.Laws.NewBlocks
import Derived.Deep.MidRow
import Derived.Laws.EntriesVeiled
import Derived.WalkMore
import Ieee.Arith
import GoSem.Core.Float
import Derived.Deep.WholeRow
import Derived.Deep.Cut
import Derived.Maps.OwnSet
import Derived.Maps.OwnOps
import Derived.Maps.OwnIn
import Derived.Shelf.Abstract
import Derived.OwnWalkIn
import Derived.TacticsInMore
import Derived.LoopNIn
import Derived.LoopIn
import Derived.RangeFuncCalls
import Derived.RangeFuncRecord
import Derived.Deep.QuietTactic
import Derived.BigQuiet
import Derived.Maps.RangeWalk
import Derived.Laws.ResultCell
import Derived.Deep.DeepCutAuto
import Derived.Defers
import Derived.Recover
import Derived.Lib.Strings
import Derived.Lib.Builder
import Derived.RangeFuncOwn
import Derived.Lib.AppendStr
import Derived.Deep.SlicePairs
import Derived.Laws.BitsAllLaws
import Derived.IntWalk
import Derived.Deep.Slices
import Derived.Deep.AppendLies
import Derived.Deep.RegionLaw
import Derived.Lib.AppendZeros
import Derived.ShutString
import Derived.ChangeOld
open Go.Lib (hid)
set_option maxRecDepth 100000
set_option maxHeartbeats 16000000
namespace Go.Proofs.YtnlijlknjhkoaaaGreat
section
open Go.RowKit
namespace Mem
structure Kept (T:Nat → Prop) (w w':World):Prop where
 os:w'.os = w.os
 tape:w'.tape = w.tape
 output:w'.output = w.output
 size:w.heap.size ≤ w'.heap.size
 block:∀ k,k < w.heap.size → ¬ T k → w'.heap[k]? = w.heap[k]?
theorem Kept.refl (T:Nat → Prop) (w:World):Kept T w w:=⟨rfl,rfl,rfl,Nat.le_refl _,fun _ _ _ => rfl⟩
theorem Kept.trans {T:Nat → Prop} {a b c:World} (h:Kept T a b) (k:Kept T b c):Kept T a c:=
 ⟨k.os.trans h.os,k.tape.trans h.tape,k.output.trans h.output,Nat.le_trans h.size k.size,fun i hi ht => (k.block i (Nat.lt_of_lt_of_le hi h.size) ht).trans (h.block i hi ht)⟩
theorem Kept.mono {T T':Nat → Prop} {a b:World} (h:Kept T a b) (hT:∀ i,i < a.heap.size → T i → T' i):Kept T' a b:=
 ⟨h.os,h.tape,h.output,h.size,fun i hi ht => h.block i hi (fun h' => ht (hT i hi h'))⟩
theorem Kept.drew {T:Nat → Prop} {a w:World} (h:Kept T a w):Kept T a w.drew:=⟨h.os,h.tape,h.output,h.size,h.block⟩
theorem Kept.alloc {T:Nat → Prop} {a w:World} (h:Kept T a w) (o:Obj):Kept T a (w.alloc o):=
 h.trans ⟨rfl,rfl,rfl,by simp,fun k hk _ => Below.heap_alloc _ _ _ hk⟩
theorem Kept.setCell {T:Nat → Prop} {a w:World} (h:Kept T a w) {p:Addr} (hp:p.block < a.heap.size → T p.block) (u:Value):Kept T a (w.setCell p u):=
 ⟨h.os,h.tape,h.output,by simpa [World.setCell] using h.size,fun k hk ht => by
  rw [Below.heap_setCell _ _ _ _ (fun e => ht (by subst e;exact hp hk))]
  exact h.block k hk ht⟩
theorem Kept.below {T:Nat → Prop} {a w w':World} (h:Kept T a w) (hb:Below w.heap.size w w'):Kept T a w':=
 ⟨hb.os.trans h.os,hb.tape.trans h.tape,hb.output.trans h.output,Nat.le_trans h.size hb.size,fun k hk ht => (hb.block k (Nat.lt_of_lt_of_le hk h.size)).trans (h.block k hk ht)⟩
theorem Kept.of_below {T:Nat → Prop} {w w':World} (hb:Below w.heap.size w w'):Kept T w w':=(Kept.refl T w).below hb
theorem Kept.to_below {T:Nat → Prop} {w w':World} {B:Nat} (h:Kept T w w') (hB:B ≤ w.heap.size) (hT:∀ k,k < B → ¬ T k):Below B w w':=
 ⟨h.os,h.tape,h.output,h.size,fun k hk => h.block k (by omega) (hT k hk)⟩
theorem Kept.grown {T:Nat → Prop} {a w w':World} {row:Option Nat} (h:Kept T a w) (hg:w.grownBy w' row) (hr:∀ k,row = some k → k < a.heap.size → T k):Kept T a w':=
 ⟨hg.os.trans h.os,hg.tape.trans h.tape,hg.output.trans h.output,Nat.le_trans h.size hg.size,fun k hk ht => (hg.block k (Nat.lt_of_lt_of_le hk h.size) (fun e => ht (hr k e.symm hk))).trans (h.block k hk ht)⟩
theorem Kept.at {T:Nat → Prop} {w w':World} {b:Nat} {o:Obj} (h:Kept T w w') (hb:w.heap[b]? = some o) (hT:¬ T b):w'.heap[b]? = some o:=
 (h.block b (lt_of_block hb) hT).trans hb
theorem below_at {w w':World} {b B:Nat} {o:Obj} (h:Below B w w') (hb:w.heap[b]? = some o) (hB:b < B):w'.heap[b]? = some o:=(h.block b hB).trans hb
theorem alloc_at {w:World} {b:Nat} {o:Obj} (x:Obj) (hb:w.heap[b]? = some o):(w.alloc x).heap[b]? = some o:=(Below.heap_alloc w x b (lt_of_block hb)).trans hb
theorem alloc_new (w:World) (x:Obj):(w.alloc x).heap[w.heap.size]? = some x:=heap_alloc_new w x
theorem cell_at {w:World} {b:Nat} {cs:Array Value} {t:TypeId} {f:Nat × Nat} (h:w.heap[b]? = some (.cells cs t f)) (i:Nat):w.cell? ⟨b,i,none⟩ = cs[i]?:=by simp [World.cell?,h]
theorem free_at {w:World} {b:Nat} {cs:Array Value} {t:TypeId} (h:w.heap[b]? = some (.cells cs t (0,0))) (i:Nat):w.frozen? ⟨b,i,none⟩ = false:=by simp [World.frozen?,h]
theorem set_at {w:World} {b:Nat} {cs:Array Value} {t:TypeId} {f:Nat × Nat} (h:w.heap[b]? = some (.cells cs t f)) (i:Nat) (v:Value):(w.setCell ⟨b,i,none⟩ v).heap[b]? = some (.cells (cs.setIfInBounds i v) t f):=by
 have hlt:=lt_of_block h
 have h':w.heap[b] = .cells cs t f:=by simpa [Array.getElem?_eq_getElem hlt] using h
 show (w.heap.modify b _)[b]? = _
 rw [Array.getElem?_eq_getElem (by simpa using hlt),Array.getElem_modify_self,h']
 rfl
theorem set_other {w:World} {b:Nat} {o:Obj} (h:w.heap[b]? = some o) {p:Addr} (hp:b ≠ p.block) (v:Value):(w.setCell p v).heap[b]? = some o:=(Below.heap_setCell _ _ _ _ hp).trans h
def cells8 (l:List UInt8):List Value:=l.map fun b => Value.int .u8 (b.toNat:Int)
theorem cells8_length (l:List UInt8):(cells8 l).length = l.length:=by unfold cells8;simp
theorem cells8_append (l m:List UInt8):cells8 (l ++ m) = cells8 l ++ cells8 m:=by unfold cells8;simp
def Own8 (w:World) (base:Nat) (v:Value) (l:List UInt8):Prop:=w.ownsRow base 5 1 v l.length (cells8 l)
theorem own8_nil (w:World) (base:Nat):Own8 w base (.slice none 0 0) []:=World.ownsRow_nil w base _ 1
def str (l:List UInt8):ByteArray:=⟨l.toArray⟩
theorem str_data (l:List UInt8):(str l).data.toList = l:=by unfold str;simp
theorem size_list (s:ByteArray):s.data.toList.length = s.size:=Array.length_toList
theorem str_size (l:List UInt8):(str l).size = l.length:=by rw [← size_list,str_data]
theorem str_of (s:ByteArray):str s.data.toList = s:=by unfold str;rw [Array.toArray_toList]
theorem str_inj {l m:List UInt8} (h:str l = str m):l = m:=by rw [← str_data l,h,str_data]
theorem own8_string {w:World} {base:Nat} {v:Value} {l:List UInt8} (h:Own8 w base v l) :
  (convert 76 9 v).run Tryz.prog w = .ok (.string (str l)) w:=by
 obtain ⟨h1,h2⟩:=h
 rcases h2 with ⟨rfl,h0⟩ | ⟨g,cap,cur,rfl,hg,hh,hn,hm,hs,ht⟩
 ·have e:l = []:=by cases l with | nil => rfl | cons a t => simp at h0
  subst e;rw [run_convert_bytes_nil w 76 5 Tryz.underlying76 Tryz.underlying5 0 0 9 Tryz.underlying9]
  rfl
 ·refine run_convert_bytes_back w 76 9 5 ⟨g,0,none⟩ cap l Tryz.underlying76 Tryz.underlying5 Tryz.underlying9 (fun j hj => ?_)
  have e:(⟨g,0,none⟩:Addr).add j = ⟨g,j,none⟩:=by unfold Addr.add;split <;> simp_all
  rw [e,cell_at hh]
  have e2:(cells8 l)[j]? = some (.int .u8 (l[j].toNat:Int)):=by unfold cells8;simp [hj]
  rw [← ht,List.getElem?_take_of_lt (by omega)] at e2;rw [← e2];simp
end Mem
end
section
open Go.RowKit
namespace Mem
variable {F:Fence} {n:Nat} {P:Program}
def Gives1 {α:Type} (F:Fence) (n:Nat) (P:Program) (g:Nat) (lb:Array Value) (encs:α → Array Value) (Kp:World → World → Prop) (S Sp:List α → Prop) (N Bf:Nat) (w:World):Prop:=
 ∀ (l:Nat) (J Jx:List α → World → Prop) (W:World),Below w.heap.size w W → (∀ pre W1 v,J pre W1 → J pre (W1.setCell ⟨Bf,0,none⟩ v)) →
  (∀ pre x W1,J pre W1 → pre.length < N → YieldAt F (n - 1) P l (encs x) W1 fun e W' =>
   (e = .returned (.bool true) ∧ J (pre ++ [x]) W' ∧ Kp W1 W') ∨ (e = .returned (.bool false) ∧ Jx (pre ++ [x]) W')) →
  J [] W →
  CallsIn F n P g (#[.func (.yield l) #[] #[]] ++ lb) W fun e W' => (∃ v,e = .returned v) ∧ ((∃ xs,S xs ∧ J xs W') ∨ (∃ pre,Sp pre ∧ Jx pre W'))
theorem setCell_heap_other {w:World} {p:Addr} {v:Value} {k:Nat} (h:k ≠ p.block):(w.setCell p v).heap[k]? = w.heap[k]?:=Below.heap_setCell _ _ _ _ h
theorem range_box {α:Type} {g:Operand} {ps:Array Tmp} {assign body:Code} {Q:Exit → Act → World → Prop} {a:Act} {w:World}
  (hro:F.round = none) (h1:1 ≤ n) {gf:Nat} {lb:Array Value} (hg:a.eval g = .func (.func gf) #[] lb) (hFg:F.fn gf) (eg:∀ args w,(callFunc gf args).run P w = .ok (.enter gf args) w)
  {encs:α → Array Value} {Kp:World → World → Prop} {S Sp:List α → Prop} {N Bf:Nat} (hit:Gives1 F (n - 1) P gf lb encs Kp S Sp N Bf w) (hBf:Bf < w.heap.size) (hps:∀ x,(encs x).size = ps.size)
  (hKt:∀ {A B C:World},Kp A B → Kp B C → Kp A C) (hKr:∀ (W:World) (o:Obj),Kp W (W.putObj (w.heap.size + 1) o))
  (I:List α → World → Prop) (Ix:Code → List α → World → Prop)
  (hIr:∀ pre W o,I pre W → I pre (W.putObj (w.heap.size + 1) o)) (hIb:∀ pre W v,I pre W → I pre (W.setCell ⟨Bf,0,none⟩ v)) (hIx:∀ c pre W o,Ix c pre W → Ix c pre (W.putObj (w.heap.size + 1) o))
  (h0:∀ o1 o2,I [] ((w.alloc o1).alloc o2)) (a1:α → Act)
  (hassign:∀ (l:Nat) (x:α) (W:World) (K:Act → World → Prop),K (a1 x) W →
   assign.wpIn (F.inRound l) (n - 1 - 1) P (Exit.then K (fun _ _ _ => False)) { tmps:=(ps.zip (encs x)).foldl (fun t (p,v) => t.setIfInBounds p v) a.tmps,defers:=[] } W)
  (hbody:∀ (l:Nat) (pre:List α) (x:α) (W:World),I pre W → pre.length < N → body.wpIn (F.inRound l) (n - 1 - 1) P (ownPostG w.heap.size Kp I Ix (pre ++ [x]) W) (a1 x) W)
  (hdone:∀ (xs:List α) (W:World),S xs → I xs W → W.heap[w.heap.size]? = some (.deferred (some [])) → Q .normal { a with defers:={ target:=.collected w.heap.size,args:=#[] } :: a.defers } W)
  (hstop:∀ (c:Code) (pre:List α) (W:World),Sp pre → Ix c pre W → W.heap[w.heap.size]? = some (.deferred (some [])) → c.wpIn F n P Q { a with defers:={ target:=.collected w.heap.size,args:=#[] } :: a.defers } W) :
  (Code.rangeFunc g ps assign body).wpIn F n P Q a w:=by
 refine wpIn_rangeFunc (fun fn hfn => ?_)
 rw [hro]
 let R:LoopState → Option Code → Loop:=fun st pe => { state:=st,pending:=pe,fn,tmps:=a.tmps,params:=ps,assign,body,defers:=w.heap.size }
 let W1:=(w.alloc (.deferred (some []))).alloc (.loop (R .ready none))
 have hrec:W1.heap[w.heap.size + 1]? = some (.loop (R .ready none)):=by
  have:=World.alloc_heap_new (w.alloc (.deferred (some []))) (.loop (R .ready none))
  rwa [World.size_alloc] at this
 have hdef:W1.heap[w.heap.size]? = some (.deferred (some [])):=(Below.heap_alloc _ _ _ (by simp)).trans (World.alloc_heap_new w _);have hbel:Below w.heap.size w W1:=((Below.refl _ w).alloc (Nat.le_refl _) _).alloc (by simp) _
 have hend:∀ (st:LoopState) (jump:Option Code) (W:World),W.heap[w.heap.size + 1]? = some (.loop (R st none)) → W.heap[w.heap.size]? = some (.deferred (some [])) →
   (Instr.endRound (w.heap.size + 1) jump).run P W = .ok (.bool jump.isNone) (W.putObj (w.heap.size + 1) (.loop (R (if jump.isNone then .ready else .done) jump))) ∧
   (W.putObj (w.heap.size + 1) (.loop (R (if jump.isNone then .ready else .done) jump))).heap[w.heap.size + 1]? = some (.loop (R (if jump.isNone then .ready else .done) jump)) ∧
   (W.putObj (w.heap.size + 1) (.loop (R (if jump.isNone then .ready else .done) jump))).heap[w.heap.size]? = some (.deferred (some [])):=fun st jump W hl hk =>
  ⟨run_endRound (P:=P) jump hl,World.putObj_heap_same (Array.getElem?_eq_some_iff.1 hl).1,(World.putObj_heap_other (by omega)).trans hk⟩
 refine ⟨w.heap.size + 1,[{ target:=.collected w.heap.size,args:=#[] }],W1,{ target:=.fn (.func gf) lb,args:=#[.func (.yield (w.heap.size + 1)) #[] #[]] },W1,gf,#[.func (.yield (w.heap.size + 1)) #[] #[]] ++ lb,W1,run_enterLoop_outer _ _ _ _ _,?_,?_,?_,fun _ => h1,?_⟩
 ·simp only [resolve,hg]
  simp [go_sem]
 ·intro f' hf'
  simp [Target.leads] at hf';subst hf';exact hFg
 ·simp [invoke,go_sem,eg]
 ·refine (hit (w.heap.size + 1)
   (fun pre W => I pre W ∧ W.heap[w.heap.size + 1]? = some (.loop (R .ready none)) ∧ W.heap[w.heap.size]? = some (.deferred (some [])))
   (fun pre W => ∃ c,Ix c pre W ∧ W.heap[w.heap.size + 1]? = some (.loop (R .done (some c))) ∧ W.heap[w.heap.size]? = some (.deferred (some [])))
   W1 hbel
   (fun pre W v h => ⟨hIb pre W v h.1,(setCell_heap_other (by show _ ≠ Bf;omega)).trans h.2.1,(setCell_heap_other (by show _ ≠ Bf;omega)).trans h.2.2⟩)
   ?_ ⟨h0 _ _,hrec,hdef⟩).mono ?_
  ·rintro pre x W ⟨hi,hl,hk⟩ hlen
   have hlt:=(Array.getElem?_eq_some_iff.1 hl).1;refine ⟨fn,_,assign,body,run_yield (P:=P) (args:=encs x) hl (hps x),roundIn_of_wpIn hfn (hassign _ x W _ ⟨_,run_beginRound hl rfl,?_⟩)⟩
   have hl2:(W.putObj (w.heap.size + 1) (.loop (R .busy none))).heap[w.heap.size + 1]? = some (.loop (R .busy none)):=World.putObj_heap_same hlt;have hk2:(W.putObj (w.heap.size + 1) (.loop (R .busy none))).heap[w.heap.size]? = some (.deferred (some [])):=(World.putObj_heap_other (by omega)).trans hk;refine wpIn_mono (hbody _ pre x _ (hIr pre W (.loop (R .busy none)) hi) hlen) ?_
   intro e a3 W3 hp
   cases e with
   | normal =>
    obtain ⟨k3,kp,i3⟩:=hp;obtain ⟨hr,hl4,hk4⟩:=hend .busy none W3 (k3.same _ _ (by omega) hl2 rfl) (k3.same _ _ (Nat.le_refl _) hk2 rfl);exact ⟨_,_,hr,.inl ⟨rfl,⟨hIr _ _ _ i3,hl4,hk4⟩,hKt (hKt (hKr _ _) kp) (hKr _ _)⟩⟩
   | ret =>
    obtain ⟨k3,i3⟩:=hp;obtain ⟨hr,hl4,hk4⟩:=hend .busy (some .ret) W3 (k3.same _ _ (by omega) hl2 rfl) (k3.same _ _ (Nat.le_refl _) hk2 rfl);exact ⟨_,_,hr,.inr ⟨rfl,.ret,hIx _ _ _ _ i3,hl4,hk4⟩⟩
   | exit id =>
    obtain ⟨k3,i3⟩:=hp;obtain ⟨hr,hl4,hk4⟩:=hend .busy (some (.exit id)) W3 (k3.same _ _ (by omega) hl2 rfl) (k3.same _ _ (Nat.le_refl _) hk2 rfl);exact ⟨_,_,hr,.inr ⟨rfl,.exit id,hIx _ _ _ _ i3,hl4,hk4⟩⟩
   | goto t =>
    obtain ⟨k3,i3⟩:=hp;obtain ⟨hr,hl4,hk4⟩:=hend .busy (some (.goto t)) W3 (k3.same _ _ (by omega) hl2 rfl) (k3.same _ _ (Nat.le_refl _) hk2 rfl);exact ⟨_,_,hr,.inr ⟨rfl,.goto t,hIx _ _ _ _ i3,hl4,hk4⟩⟩
   | panic ch => exact hp.elim
   | outgrown => exact hp.elim
  ·rintro e W2 ⟨⟨v,rfl⟩,(⟨xs,hS,hi,hl,hk⟩ | ⟨pre,hSp,c,hi,hl,hk⟩)⟩
   ·exact ⟨none,_,run_endLoop (P:=P) hl (by simp [R]),hdone xs _ hS (hIr _ _ _ hi) ((World.putObj_heap_other (by omega)).trans hk)⟩
   ·exact ⟨some c,_,run_endLoop (P:=P) hl (by simp [R]),hstop c pre _ hSp (hIx _ _ _ _ hi) ((World.putObj_heap_other (by omega)).trans hk)⟩
end Mem
end
section
open Go.RowKit
namespace Mem
def Src (w:World) (y:Value) (m:Nat) (news:List Value):Prop:=
 (y = .slice none 0 0 ∧ m = 0 ∧ news = []) ∨ ∃ ad c,y = .slice (some ad) m c ∧ ∀ j u,news[j]? = some u → w.cell? (ad.add j) = some u
theorem wpList_append_src {P:Program} {w:World} {ops:Array Oper} {rest:List Oper} {o:Oper} {a:Act} {Q:Exit → Act → World → Prop} (hgd:o.guard = none) (s x:Operand) (t:TypeId)
  (ho:o.op = .call { callee:=.builtin .append,args:=#[s,x],argTypes:=#[t,t] })
  (base:Nat) (e:TypeId) (i:TypeInfo) (z:Value) (size bytes:Nat) (ht:P.underlying t = some (.slice e)) (hi:P.info? e = some i) (hz:i.zero = some z)
  (hsize:i.size = size) (hby:i.bytes = bytes) (hzs:z.cells.size = size) (hsz:0 < size)
  (v:Value) (n:Nat) (xs:List Value) (hs:a.eval s = v) (hown:w.ownsRow base e size v n xs)
  (y:Value) (m:Nat) (news:List Value) (hx:a.eval x = y) (hl:news.length = m * size) (hsrc:Src w y m news) (h1:∀ u ∈ news,u.oneCell' = true)
  (h63:n + m ≤ maxLen) (hbytes:(n + m) * bytes ≤ 140737488355328) (hbase:base ≤ w.heap.size)
  (h:∀ v' w',w'.ownsRow base e size v' (n + m) (xs ++ news) → w.grownBy w' v.ownBlock → wpList P ops Q rest (a.put o.dst v') w'):wpList P ops Q (o :: rest) a w:=by
 rcases hsrc with ⟨e1,rfl,rfl⟩ | ⟨ad,c,e1,hc⟩
 ·refine wpList_append_own_none hgd s x t ho base e i size ht hi v n xs hs hown (hx.trans e1) ?_
  refine h v w ?_ ⟨rfl,rfl,rfl,Nat.le_refl _,fun _ _ _ => rfl⟩
  rw [Nat.add_zero,List.append_nil];exact hown
 ·exact wpList_append_own w hgd s x t ho base e i z size bytes ht hi hz hsize hby hzs hsz v n xs hs hown ad m c news (hx.trans e1) hl hc h1 h63 hbytes hbase fun v' w' h2 h3 _ => h v' w' h2 h3
end Mem
end
section
open Go.RowKit
namespace Mem
theorem wp_append_src {P:Program} {w:World} {o:Oper} {a:Act} {K:Act → World → Prop} {Q:Exit → Act → World → Prop} (s x:Operand) (t:TypeId)
  (ho:o.op = .call { callee:=.builtin .append,args:=#[s,x],argTypes:=#[t,t] })
  (base:Nat) (e:TypeId) (i:TypeInfo) (z:Value) (size bytes:Nat) (ht:P.underlying t = some (.slice e)) (hi:P.info? e = some i) (hz:i.zero = some z)
  (hsize:i.size = size) (hby:i.bytes = bytes) (hzs:z.cells.size = size) (hsz:0 < size)
  (v:Value) (n:Nat) (xs:List Value) (hs:a.eval s = v) (hown:w.ownsRow base e size v n xs)
  (y:Value) (m:Nat) (news:List Value) (hx:a.eval x = y) (hl:news.length = m * size) (hsrc:Src w y m news) (h1:∀ u ∈ news,u.oneCell' = true)
  (h63:n + m ≤ maxLen) (hbytes:(n + m) * bytes ≤ 140737488355328) (hbase:base ≤ w.heap.size)
  (h:∀ v' w',w'.ownsRow base e size v' (n + m) (xs ++ news) → w.grownBy w' v.ownBlock → K (a.put o.dst v') w'):o.wp P a w K Q:=by
 rcases hsrc with ⟨e1,rfl,rfl⟩ | ⟨ad,c,e1,hc⟩
 ·have hrun:=run_append_owned_none (P:=P) (w:=w) base t o.type e i size ht hi v n xs hown
  have hx2:=hx.trans e1;unfold Oper.wp;simp [execOp,ho,resolve,invoke,builtin,hs,hx2,hrun,Result.andThen];refine h v w ?_ ⟨rfl,rfl,rfl,Nat.le_refl _,fun _ _ _ => rfl⟩
  rw [Nat.add_zero,List.append_nil];exact hown
 ·exact wp_append_own w s x t ho base e i z size bytes ht hi hz hsize hby hzs hsz v n xs hs hown ad m c news (hx.trans e1) hl hc h1 h63 hbytes hbase fun v' w' h2 h3 _ => h v' w' h2 h3
theorem step_append_src {P:Program} {w:World} {ops:Array Oper} {o:Oper} {a:Act} {K:Act → World → Prop} {Q:Exit → Act → World → Prop} {E:Prop} (hgd:o.guard = none) (s x:Operand) (t:TypeId)
  (ho:o.op = .call { callee:=.builtin .append,args:=#[s,x],argTypes:=#[t,t] })
  (base:Nat) (e:TypeId) (i:TypeInfo) (z:Value) (size bytes:Nat) (ht:P.underlying t = some (.slice e)) (hi:P.info? e = some i) (hz:i.zero = some z)
  (hsize:i.size = size) (hby:i.bytes = bytes) (hzs:z.cells.size = size) (hsz:0 < size)
  (v:Value) (n:Nat) (xs:List Value) (hs:a.eval s = v) (hown:w.ownsRow base e size v n xs)
  (y:Value) (m:Nat) (news:List Value) (hx:a.eval x = y) (hl:news.length = m * size) (hsrc:Src w y m news) (h1:∀ u ∈ news,u.oneCell' = true)
  (h63:n + m ≤ maxLen) (hbytes:(n + m) * bytes ≤ 140737488355328) (hbase:base ≤ w.heap.size)
  (h:∀ v' w',w'.ownsRow base e size v' (n + m) (xs ++ news) → w.grownBy w' v.ownBlock → K (a.put o.dst v') w') :
  if Region.wanted o (yielded ops a.tmps) = true then Oper.wp P o a w K Q else E:=by
 have hw:Region.wanted o (yielded ops a.tmps) = true:=by simp [Region.wanted,hgd]
 rw [if_pos hw];exact wp_append_src s x t ho base e i z size bytes ht hi hz hsize hby hzs hsz v n xs hs hown y m news hx hl hsrc h1 h63 hbytes hbase h
end Mem
end
section
open Go.RowKit
namespace Mem
def Sl (W:World) (v:Value) (n:Nat) (cs:List Value):Prop:=
 ∃ (a:Option Addr) (cap:Nat),v = .slice a n cap ∧ n ≤ cap ∧ (a = none → cap = 0) ∧ (0 < n → ∃ b off,a = some ⟨b,off,none⟩ ∧ b < W.heap.size ∧ ∀ j u,cs[j]? = some u → W.cell? ⟨b,off + j,none⟩ = some u)
theorem sl_nil (W:World):Sl W (.slice none 0 0) 0 []:=⟨none,0,rfl,Nat.le_refl _,fun _ => rfl,fun h => by omega⟩
theorem Sl.below {W W':World} {v:Value} {n:Nat} {cs:List Value} (h:Sl W v n cs) (hb:Below W.heap.size W W'):Sl W' v n cs:=by
 obtain ⟨a,cap,e,h1,h2,h3⟩:=h;refine ⟨a,cap,e,h1,h2,fun h0 => ?_⟩
 obtain ⟨b,off,e1,e2,e3⟩:=h3 h0;exact ⟨b,off,e1,Nat.lt_of_lt_of_le e2 hb.size,fun j u hu => (hb.cell (p:=⟨b,off + j,none⟩) e2).trans (e3 j u hu)⟩
theorem Sl.len {W:World} {v:Value} {n:Nat} {cs:List Value} (h:Sl W v n cs):∃ a cap,v = .slice a n cap:=by
 obtain ⟨a,cap,e,-⟩:=h;exact ⟨a,cap,e⟩
theorem Sl.addr {W:World} {a:Option Addr} {n cap:Nat} {cs:List Value} (h:Sl W (.slice a n cap) n cs) (h0:0 < n):∃ b off,a = some ⟨b,off,none⟩:=by
 obtain ⟨a',cap',e,-,-,h3⟩:=h
 cases e
 obtain ⟨b,off,e1,-⟩:=h3 h0;exact ⟨b,off,e1⟩
theorem Sl.cap {W:World} {a:Option Addr} {n m cap:Nat} {cs:List Value} (h:Sl W (.slice a m cap) n cs):n ≤ cap ∧ m = n:=by
 obtain ⟨a',cap',e,h1,-⟩:=h
 cases e
 exact ⟨h1,rfl⟩
theorem Sl.at {W:World} {b off n cap:Nat} {cs:List Value} (h:Sl W (.slice (some ⟨b,off,none⟩) n cap) n cs) (h0:0 < n):b < W.heap.size ∧ ∀ j u,cs[j]? = some u → W.cell? ⟨b,off + j,none⟩ = some u:=by
 obtain ⟨a',cap',e,-,-,h3⟩:=h
 cases e
 obtain ⟨b',off',e1,e2,e3⟩:=h3 h0
 cases e1
 exact ⟨e2,e3⟩
section
variable {α:Type} {f:α → List Value} {k:Nat}
theorem flat_length (hf:∀ x,(f x).length = k) (l:List α):(l.flatMap f).length = l.length * k:=by
 induction l with
 | nil => simp
 | cons x l ih => rw [List.flatMap_cons,List.length_append,hf,ih,List.length_cons,Nat.succ_mul,Nat.add_comm]
theorem flat_at (hf:∀ x,(f x).length = k) (l:List α):∀ (j:Nat) (x:α),l[j]? = some x → ∀ i,i < k → (l.flatMap f)[j * k + i]? = (f x)[i]?:=by
 induction l with
 | nil => intro j x h;simp at h
 | cons y l ih =>
  intro j x h i hi;rw [List.flatMap_cons]
  cases j with
  | zero =>
   simp only [List.getElem?_cons_zero,Option.some.injEq] at h;subst h;rw [Nat.zero_mul,Nat.zero_add,List.getElem?_append_left (by rw [hf];exact hi)]
  | succ j =>
   rw [Nat.succ_mul,List.getElem?_append_right (by rw [hf];omega),hf,show j * k + k + i - k = j * k + i by omega];exact ih j x (by simpa using h) i hi
theorem sl_at (hf:∀ x,(f x).length = k) {W:World} {b off n cap:Nat} {l:List α} (h:Sl W (.slice (some ⟨b,off,none⟩) n cap) n (l.flatMap f)) (hn:l.length = n) {j:Nat} {x:α} (hj:l[j]? = some x) {i:Nat} {u:Value} (hu:(f x)[i]? = some u):W.cell? ⟨b,off + j * k + i,none⟩ = some u:=by
 have hj':=(List.getElem?_eq_some_iff.1 hj).1
 have hi:i < k:=by rw [← hf x];exact (List.getElem?_eq_some_iff.1 hu).1
 have:=(h.at (by omega)).2 (j * k + i) u (by rw [flat_at hf l j x hj i hi];exact hu)
 rwa [← Nat.add_assoc] at this
theorem sl_lt {W:World} {b off n cap:Nat} {cs:List Value} (h:Sl W (.slice (some ⟨b,off,none⟩) n cap) n cs) (h0:0 < n):b < W.heap.size:=(h.at h0).1
theorem flat_ones (h1:∀ x,∀ u ∈ f x,u.oneCell' = true) (l:List α):∀ u ∈ l.flatMap f,u.oneCell' = true:=by
 intro u hu;rw [List.mem_flatMap] at hu;obtain ⟨x,_,hx⟩:=hu;exact h1 x u hx
theorem flat_snoc (l:List α) (x:α):(l ++ [x]).flatMap f = l.flatMap f ++ f x:=by rw [List.flatMap_append,List.flatMap_cons,List.flatMap_nil,List.append_nil]
end
theorem own_sl {w:World} {base:Nat} {e:TypeId} {k:Nat} {v:Value} {n:Nat} {cs:List Value} (h:w.ownsRow base e k v n cs):Sl w v n cs:=by
 obtain ⟨h1,h2⟩:=h
 rcases h2 with ⟨rfl,rfl⟩ | ⟨g,cap,cur,rfl,hg,hh,hn,hm,hs,ht⟩
 ·have:cs = []:=List.eq_nil_of_length_eq_zero (by omega)
  subst this;exact sl_nil w
 ·refine ⟨_,cap,rfl,hn,(fun e => by cases e),fun _ => ⟨g,0,rfl,lt_of_block hh,fun j u hu => ?_⟩⟩
  have hj:=(List.getElem?_eq_some_iff.1 hu).1;rw [← ht,List.getElem?_take_of_lt (by omega)] at hu;rw [cell_at hh,Nat.zero_add,← hu];simp
theorem own_below {w w':World} {base:Nat} {e:TypeId} {k:Nat} {v:Value} {n:Nat} {cs:List Value} (h:w.ownsRow base e k v n cs) (hb:Below w.heap.size w w'):w'.ownsRow base e k v n cs:=by
 refine ⟨h.1,?_⟩
 rcases h.2 with h2 | ⟨g,cap,cur,ev,hg,hh,r⟩
 ·exact .inl h2
 ·exact .inr ⟨g,cap,cur,ev,hg,below_at hb hh (lt_of_block hh),r⟩
theorem own_kept {T:Nat → Prop} {w w':World} {base:Nat} {e:TypeId} {k:Nat} {v:Value} {n:Nat} {cs:List Value} (h:w.ownsRow base e k v n cs) (kp:Kept T w w') (hT:∀ i,base ≤ i → ¬ T i):w'.ownsRow base e k v n cs:=by
 refine ⟨h.1,?_⟩
 rcases h.2 with h2 | ⟨g,cap,cur,ev,hg,hh,r⟩
 ·exact .inl h2
 ·exact .inr ⟨g,cap,cur,ev,hg,kp.at hh (hT g hg),r⟩
theorem own_mono {w:World} {B C:Nat} {e:TypeId} {k:Nat} {v:Value} {n:Nat} {cs:List Value} (h:w.ownsRow B e k v n cs) (hC:C ≤ B):w.ownsRow C e k v n cs:=by
 refine ⟨h.1,?_⟩
 rcases h.2 with h2 | ⟨g,cap,cur,ev,hg,hh,r⟩
 ·exact .inl h2
 ·exact .inr ⟨g,cap,cur,ev,Nat.le_trans hC hg,hh,r⟩
theorem own_slice' {w:World} {base:Nat} {e:TypeId} {k:Nat} {v:Value} {n:Nat} {cs:List Value} (h:w.ownsRow base e k v n cs):v = .slice none 0 0 ∧ n = 0 ∧ cs = [] ∨ ∃ g cap,v = .slice (some ⟨g,0,none⟩) n cap ∧ base ≤ g ∧ g < w.heap.size ∧ n ≤ cap ∧ cap ≤ maxLen:=by
 obtain ⟨h1,h2⟩:=h
 rcases h2 with ⟨rfl,rfl⟩ | ⟨g,cap,cur,rfl,hg,hh,hn,hm,_⟩
 ·exact .inl ⟨rfl,rfl,List.eq_nil_of_length_eq_zero (by omega)⟩
 ·exact .inr ⟨g,cap,rfl,hg,lt_of_block hh,hn,hm⟩
theorem sl_src {W:World} {v:Value} {n:Nat} {cs:List Value} (h:Sl W v n cs) (h0:n = 0 → cs = []):Src W v n cs:=by
 obtain ⟨a,cap,rfl,h1,h2,h3⟩:=h
 by_cases hn:n = 0
 ·have hc:=h0 hn
  subst hn hc
  cases a with
  | none => exact .inl ⟨by rw [h2 rfl],rfl,rfl⟩
  | some ad => exact .inr ⟨ad,cap,rfl,fun j u hu => by simp at hu⟩
 ·obtain ⟨b,off,rfl,-,h4⟩:=h3 (by omega)
  refine .inr ⟨_,cap,rfl,fun j u hu => ?_⟩
  have e:(⟨b,off,none⟩:Addr).add j = ⟨b,off + j,none⟩:=by unfold Addr.add;split <;> simp_all
  rw [e];exact h4 j u hu
theorem block_cells {W:World} {b:Nat} {cs:Array Value} {t:TypeId} {f:Nat × Nat} (h:W.heap[b]? = some (.cells cs t f)) (j:Nat) (u:Value) (hu:cs.toList[j]? = some u):W.cell? ⟨b,j,none⟩ = some u:=by
 rw [cell_at h,← hu];simp
theorem src_new {W:World} {b m:Nat} {cs:Array Value} {t:TypeId} {f:Nat × Nat} (h:W.heap[b]? = some (.cells cs t f)) (c:Nat):Src W (.slice (some ⟨b,0,none⟩) m c) m cs.toList:=by
 refine .inr ⟨⟨b,0,none⟩,c,rfl,fun j u hu => ?_⟩
 have e:(⟨b,0,none⟩:Addr).add j = ⟨b,j,none⟩:=by unfold Addr.add;split <;> simp_all
 rw [e];exact block_cells h j u hu
theorem take_snoc {α:Type} {l:List α} {k:Nat} {x:α} (h:l[k]? = some x):l.take (k + 1) = l.take k ++ [x]:=by
 rw [List.take_add_one,h]
 rfl
theorem drop_cons {α:Type} {l:List α} {k:Nat} {x:α} (h:l[k]? = some x):l.drop k = x :: l.drop (k + 1):=by
 obtain ⟨h1,rfl⟩:=List.getElem?_eq_some_iff.1 h;exact List.drop_eq_getElem_cons h1
theorem some_at {α:Type} {l:List α} {k:Nat} (h:k < l.length):∃ x,l[k]? = some x:=⟨_,List.getElem?_eq_getElem h⟩
end Mem
end
section
open Go.RowKit
namespace Mem
theorem run_copy_rowK {P:Program} (w:World) (dT sT ty elem:TypeId) (g o dLen dCap:Nat) (a:Addr) (sLen sCap size:Nat) (cur:Array Value) (t:TypeId) (cs:List Value)
  (hu:P.underlying dT = some (.slice elem)) (hs:(P.info? elem).map (·.size) = some size)
  (hg:w.heap[g]? = some (.cells cur t (0,0))) (hn:cs.length = Nat.min sLen dLen * size)
  (hsrc:∀ j v,cs[j]? = some v → w.cell? (a.add j) = some v) (hfit:o + cs.length ≤ cur.size) (h1:∀ v ∈ cs,v.oneCell' = true) :
  (Builtin.copy_ #[dT,sT] ty #[.slice (some ⟨g,o,none⟩) dLen dCap,.slice (some a) sLen sCap]).run P w =
   .ok (goInt (Nat.min sLen dLen)) (w.setRow g (cur.toList.take o ++ cs ++ cur.toList.drop (o + cs.length)).toArray):=by
 have hl:=run_loadCells_list (P:=P) w a cs hsrc;have hst:=run_storeCells_at P g o t cs 0 cur w hg (by simpa using hfit) h1
 cases hq:P.info? elem with
 | none => simp [hq] at hs
 | some i =>
  have hi:i.size = size:=by simpa [hq] using hs
  simp [Builtin.copy_,run_underlying hu,Builtin.lenOf,Builtin.firstCells,sizeOf,typeInfo,hq,hi,← hn,hl,hst]
theorem run_copy_noneK {P:Program} (w:World) (dT sT ty elem:TypeId) (d a:Option Addr) (dLen dCap sLen sCap size:Nat) (hu:P.underlying dT = some (.slice elem)) (hs:(P.info? elem).map (·.size) = some size) (hn:Nat.min sLen dLen = 0) :
  (Builtin.copy_ #[dT,sT] ty #[.slice d dLen dCap,.slice a sLen sCap]).run P w = .ok (goInt 0) w:=by
 cases hq:P.info? elem with
 | none => simp [hq] at hs
 | some i =>
  have hl:∀ (x:Addr),(loadCells x 0).run P w = .ok #[] w:=fun x => by simpa using run_loadCells_list (P:=P) w x [] (by simp)
  cases d <;> cases a <;> simp [Builtin.copy_,run_underlying hu,Builtin.lenOf,Builtin.firstCells,sizeOf,typeInfo,hq,hn,storeCells,hl]
theorem run_copy_spliceK {P:Program} (w:World) (dT sT ty elem:TypeId) (size:Nat) (hu:P.underlying dT = some (.slice elem)) (hsz:(P.info? elem).map (·.size) = some size) (dp sp:Option Addr) (dLen dCap sLen sCap:Nat)
  (g off:Nat) (cur:List Value) (t:TypeId) (hg:w.heap[g]? = some (.cells cur.toArray t (0,0))) (cs:List Value) (n:Nat) (hmin:Nat.min sLen dLen = n) (hn:cs.length = n * size)
  (hpos:0 < n → dp = some ⟨g,off,none⟩ ∧ ∃ ad,sp = some ad ∧ ∀ j v,cs[j]? = some v → w.cell? (ad.add j) = some v)
  (hfit:off + cs.length ≤ cur.length) (h1:∀ v ∈ cs,v.oneCell' = true) :
  ∃ w',(Builtin.copy_ #[dT,sT] ty #[.slice dp dLen dCap,.slice sp sLen sCap]).run P w = .ok (goInt n) w' ∧ w'.heap[g]? = some (.cells (splice cur off cs).toArray t (0,0)) ∧ (∀ B (w0:World),Below B w0 w → B ≤ g → Below B w0 w') ∧ (∀ k,k ≠ g → w'.heap[k]? = w.heap[k]?) ∧ w'.heap.size = w.heap.size:=by
 by_cases h0:n = 0
 ·subst h0
  obtain rfl:cs = []:=List.eq_nil_of_length_eq_zero (by omega);exact ⟨w,run_copy_noneK w dT sT ty elem dp sp dLen dCap sLen sCap size hu hsz hmin,by simpa [splice] using hg,fun B w0 h _ => h,fun _ _ => rfl,rfl⟩
 ·obtain ⟨rfl,ad,rfl,hsrc⟩:=hpos (by omega)
  have hrun:=run_copy_rowK (P:=P) w dT sT ty elem g off dLen dCap ad sLen sCap size cur.toArray t cs hu hsz hg (by rw [hmin];exact hn) hsrc (by simpa using hfit) h1;rw [hmin] at hrun;exact ⟨_,hrun,by simpa [splice] using setRow_heap w g _ _ t _ hg,fun B w0 h hB => below_setRow h hB _,fun k hk => setRow_other w g k _ hk,setRow_size _ _ _⟩
theorem wpList_copy_spliceK {P:Program} {w:World} {ops:Array Oper} {rest:List Oper} {o:Oper} {a:Act} {Q:Exit → Act → World → Prop} (hgd:o.guard = none) (d s:Operand) (dT sT:TypeId)
  (ho:o.op = .call { callee:=.builtin .copy,args:=#[d,s],argTypes:=#[dT,sT] }) (elem:TypeId) (size:Nat) (hu:P.underlying dT = some (.slice elem)) (hsz:(P.info? elem).map (·.size) = some size)
  (dp sp:Option Addr) (dLen dCap sLen sCap:Nat) (hd:a.eval d = .slice dp dLen dCap) (hs:a.eval s = .slice sp sLen sCap)
  (g off:Nat) (cur:List Value) (t:TypeId) (hg:w.heap[g]? = some (.cells cur.toArray t (0,0))) (cs:List Value) (n:Nat) (hmin:Nat.min sLen dLen = n) (hn:cs.length = n * size)
  (hpos:0 < n → dp = some ⟨g,off,none⟩ ∧ ∃ ad,sp = some ad ∧ ∀ j v,cs[j]? = some v → w.cell? (ad.add j) = some v)
  (hfit:off + cs.length ≤ cur.length) (h1:∀ v ∈ cs,v.oneCell' = true)
  (h:∀ w',Hid (w'.heap[g]? = some (.cells (splice cur off cs).toArray t (0,0))) → Hid (∀ B (w0:World),Below B w0 w → B ≤ g → Below B w0 w') → Hid (∀ k,k ≠ g → w'.heap[k]? = w.heap[k]?) → wpList P ops Q rest (a.put o.dst (goInt n)) w') :
  wpList P ops Q (o :: rest) a w:=by
 refine wpList_plain hgd fun K hK => ?_
 obtain ⟨w',hrun,h2,h3,h4,-⟩:=run_copy_spliceK (P:=P) w dT sT o.type elem size hu hsz dp sp dLen dCap sLen sCap g off cur t hg cs n hmin hn hpos hfit h1;unfold Oper.wp;simp [execOp,ho,resolve,invoke,builtin,hd,hs,hrun,Result.andThen];exact hK _ _ (h w' h2 h3 h4)
theorem step_copy_spliceK {P:Program} {ops:Array Oper} {o:Oper} {a:Act} {w:World} {K:Act → World → Prop} {Q:Exit → Act → World → Prop} {E:Prop} (hgd:o.guard = none) (d s:Operand) (dT sT:TypeId)
  (ho:o.op = .call { callee:=.builtin .copy,args:=#[d,s],argTypes:=#[dT,sT] }) (elem:TypeId) (size:Nat) (hu:P.underlying dT = some (.slice elem)) (hsz:(P.info? elem).map (·.size) = some size)
  (dp sp:Option Addr) (dLen dCap sLen sCap:Nat) (hd:a.eval d = .slice dp dLen dCap) (hs:a.eval s = .slice sp sLen sCap)
  (g off:Nat) (cur:List Value) (t:TypeId) (hg:w.heap[g]? = some (.cells cur.toArray t (0,0))) (cs:List Value) (n:Nat) (hmin:Nat.min sLen dLen = n) (hn:cs.length = n * size)
  (hpos:0 < n → dp = some ⟨g,off,none⟩ ∧ ∃ ad,sp = some ad ∧ ∀ j v,cs[j]? = some v → w.cell? (ad.add j) = some v)
  (hfit:off + cs.length ≤ cur.length) (h1:∀ v ∈ cs,v.oneCell' = true)
  (h:∀ w',Hid (w'.heap[g]? = some (.cells (splice cur off cs).toArray t (0,0))) → Hid (∀ B (w0:World),Below B w0 w → B ≤ g → Below B w0 w') → Hid (∀ k,k ≠ g → w'.heap[k]? = w.heap[k]?) → K (a.put o.dst (goInt n)) w') :
  if Region.wanted o (yielded ops a.tmps) = true then Oper.wp P o a w K Q else E:=by
 have hw:Region.wanted o (yielded ops a.tmps) = true:=by simp [Region.wanted,hgd]
 rw [if_pos hw];obtain ⟨w',hrun,h2,h3,h4,-⟩:=run_copy_spliceK (P:=P) w dT sT o.type elem size hu hsz dp sp dLen dCap sLen sCap g off cur t hg cs n hmin hn hpos hfit h1;unfold Oper.wp;simp [execOp,ho,resolve,invoke,builtin,hd,hs,hrun,Result.andThen];exact h w' h2 h3 h4
theorem step_copy_spliceG {P:Program} {ops:Array Oper} {o:Oper} {a:Act} {w:World} {K:Act → World → Prop} {Q:Exit → Act → World → Prop} {E:Prop} (hw:Region.wanted o (yielded ops a.tmps) = true) (d s:Operand) (dT sT:TypeId)
  (ho:o.op = .call { callee:=.builtin .copy,args:=#[d,s],argTypes:=#[dT,sT] }) (elem:TypeId) (size:Nat) (hu:P.underlying dT = some (.slice elem)) (hsz:(P.info? elem).map (·.size) = some size)
  (dp sp:Option Addr) (dLen dCap sLen sCap:Nat) (hd:a.eval d = .slice dp dLen dCap) (hs:a.eval s = .slice sp sLen sCap)
  (g off:Nat) (cur:List Value) (t:TypeId) (hg:w.heap[g]? = some (.cells cur.toArray t (0,0))) (cs:List Value) (n:Nat) (hmin:Nat.min sLen dLen = n) (hn:cs.length = n * size)
  (hpos:0 < n → dp = some ⟨g,off,none⟩ ∧ ∃ ad,sp = some ad ∧ ∀ j v,cs[j]? = some v → w.cell? (ad.add j) = some v)
  (hfit:off + cs.length ≤ cur.length) (h1:∀ v ∈ cs,v.oneCell' = true)
  (h:∀ w',Hid (w'.heap[g]? = some (.cells (splice cur off cs).toArray t (0,0))) → Hid (∀ B (w0:World),Below B w0 w → B ≤ g → Below B w0 w') → Hid (∀ k,k ≠ g → w'.heap[k]? = w.heap[k]?) → K (a.put o.dst (goInt n)) w') :
  if Region.wanted o (yielded ops a.tmps) = true then Oper.wp P o a w K Q else E:=by
 rw [if_pos hw];obtain ⟨w',hrun,h2,h3,h4,-⟩:=run_copy_spliceK (P:=P) w dT sT o.type elem size hu hsz dp sp dLen dCap sLen sCap g off cur t hg cs n hmin hn hpos hfit h1;unfold Oper.wp;simp [execOp,ho,resolve,invoke,builtin,hd,hs,hrun,Result.andThen];exact h w' h2 h3 h4
end Mem
end
section
namespace Tp
structure Tm where
 c:Int
 r:Int
 deriving DecidableEq
structure Rw where
 ch:Int
 pa:Int
 nm:ByteArray
 rk:Nat
 deriving DecidableEq
structure Mv where
 t:Tm
 pa:Int
 ch:Int
 nm:ByteArray
 rk:Nat
 deriving DecidableEq
structure Mk where
 rep:Int
 cnt:Int
 deriving DecidableEq
structure Rp where
 base:List Rw
 fl:Tm
 log:List Mv
 mks:List Mk
 deriving DecidableEq
structure Dd where
 kind:Int
 who:Int
 frm:Int
 at_:Int
 pa:Int
 ch:Int
 nm:ByteArray
 rk:Nat
def rowOf (m:Mv):Rw:=⟨m.ch,m.pa,m.nm,m.rk⟩
def bef (a b:Tm):Bool:=decide (a.c < b.c ∨ (a.c = b.c ∧ a.r < b.r))
theorem bef_trans {a b c:Tm} (h:bef a b = true) (k:bef b c = true):bef a c = true:=by
 have h:=of_decide_eq_true h;have k:=of_decide_eq_true k;exact decide_eq_true (by omega)
theorem bef_total {a b:Tm} (h:bef a b = false) (hne:a ≠ b):bef b a = true:=by
 have h:=of_decide_eq_false h;refine decide_eq_true ?_
 obtain ⟨a1,a2⟩:=a;obtain ⟨b1,b2⟩:=b;simp only [ne_eq,Tm.mk.injEq,not_and] at hne h ⊢
 by_cases e:a1 = b1
 ·have:=hne e;omega
 ·omega
def okT (t:Tm):Prop:=1 ≤ t.c ∧ t.c ≤ 4611686018427387903 ∧ 1 ≤ t.r ∧ t.r ≤ 255
instance (t:Tm):Decidable (okT t):=by unfold okT;infer_instance
def up (l:List Rw) (x:Int):Option Int:=(l.find? (fun r => r.ch == x)).map (·.pa)
def setR (l:List Rw) (r:Rw):List Rw:=
 if l.findIdx (fun x => x.ch == r.ch) < l.length then l.set (l.findIdx (fun x => x.ch == r.ch)) r
 else l.take (l.findIdx (fun x => decide (r.ch < x.ch))) ++ r :: l.drop (l.findIdx (fun x => decide (r.ch < x.ch)))
def chain (l:List Rw):Nat → Int → List Int
 | 0,_ => []
 | n + 1,x => match up l x with
  | none => []
  | some p => p :: chain l n p
def above (l:List Rw) (a b:Int):Bool:=(chain l l.length b).contains a
def barred (l:List Rw) (m:Mv):Bool:=m.ch == 0 || m.ch == m.pa || above l m.ch m.pa
def doM (l:List Rw) (m:Mv):List Rw:=if barred l m then l else setR l (rowOf m)
def foldM (l:List Rw) (ms:List Mv):List Rw:=ms.foldl doM l
def insL (l:List Mv) (m:Mv):List Mv:=l.take (l.findIdx (fun x => bef m.t x.t)) ++ m :: l.drop (l.findIdx (fun x => bef m.t x.t))
def hasT (l:List Mv) (t:Tm):Bool:=l.any (fun x => x.t == t)
def insM (l:List Mv) (m:Mv):List Mv:=if hasT l m.t then l else insL l m
def since (l:List Mv) (t:Tm):List Mv:=l.filter (fun m => bef t m.t)
def getM (v:List Mk) (r:Int):Int:=((v.find? (fun x => x.rep == r)).map (·.cnt)).getD 0
def raiseM (v:List Mk) (t:Tm):List Mk:=
 if v.findIdx (fun x => x.rep == t.r) < v.length then v.modify (v.findIdx (fun x => x.rep == t.r)) (fun x => ⟨x.rep,max x.cnt t.c⟩)
 else if t.c ≤ 0 then v
 else v.take (v.findIdx (fun x => decide (t.r < x.rep))) ++ ⟨t.r,t.c⟩ :: v.drop (v.findIdx (fun x => decide (t.r < x.rep)))
def ofM (l:List Mv):List Mk:=l.foldl (fun v m => raiseM v m.t) []
def topM (fl:Tm) (v:List Mk):Int:=v.foldl (fun n x => max n x.cnt) (max 0 fl.c)
def nextM (v:List Mk) (fl:Tm) (who:Int):Option Tm:=if 4611686018427387903 ≤ topM fl v ∨ who < 1 ∨ 255 < who then none else some ⟨topM fl v + 1,who⟩
def knownT (v:List Mk) (t:Tm):Prop:=okT t ∧ t.c ≤ getM v t.r
instance (v:List Mk) (t:Tm):Decidable (knownT v t):=by unfold knownT;infer_instance
def treeR (r:Rp):List Rw:=foldM r.base r.log
end Tp
end
section
namespace Opened
variable {P:Program} {W:World} {r:Reach} {b:Nat} {t:TypeId} {v:Value}
theorem cell_int {k:IntKind} (ht:P.underlying t = some (.int k)) (h:Cell.okWide P W r b t v):∃ n,v = .int k n ∧ k.min ≤ n ∧ n ≤ k.max:=by
 simp only [Cell.okWide,ht] at h
 cases v <;> simp_all [Cell.ok,IntKind.has]
theorem cell_slice {e:TypeId} (ht:P.underlying t = some (.slice e)) (h:Cell.okWide P W r b t v):∃ a len cap,v = .slice a len cap:=by
 simp only [Cell.okWide,ht] at h
 cases v <;> simp_all [Cell.ok]
theorem ok_slice {e:TypeId} (ht:P.underlying t = some (.slice e)) (h:Value.okWide P W r b t v):∃ a len cap,v = .slice a len cap:=
 cell_slice ht (by simpa only [Value.okWide,ht] using h)
theorem ok_cells (ts:List TypeId) (n:Nat) (hs:(match P.underlying t with | some (.struct _) | some (.array _ _) => true | _ => false) = true) (hn:P.cellsOf t = n) (hts:P.cellTypes P.depth t = some ts) (h:Value.okWide P W r b t v) :
  ∃ cs:Array Value,v = .agg cs ∧ cs.size = n ∧ ∀ i x,cs[i]? = some x → ∃ u,ts[i % ts.length]? = some u ∧ Cell.okWide P W r b u x:=by
 unfold Value.okWide at h
 split at h
 ·obtain ⟨cs,rfl,h1,ts',h2,_,h3⟩:=h
  rw [hts] at h2
  cases h2
  exact ⟨cs,rfl,h1.trans hn,h3⟩
 ·obtain ⟨cs,rfl,h1,ts',h2,_,h3⟩:=h
  rw [hts] at h2
  cases h2
  exact ⟨cs,rfl,h1.trans hn,h3⟩
 ·rename_i e1 e2
  exfalso
  split at hs
  ·rename_i fs e;exact e1 fs e
  ·rename_i k e e';exact e2 k e e'
  ·cases hs
theorem arr2 {cs:Array Value} (h:cs.size = 2):∃ x y,cs = #[x,y]:=by
 obtain ⟨l⟩:=cs
 match l,h with
 | [x,y],_ => exact ⟨x,y,rfl⟩
end Opened
end
section
open Go.RowKit Go.ChangeShapes Go.WideShapes Go.ChangeAt
namespace Opened
structure Ints (k:IntKind) (W:World) (v:Value) (zs:List Int):Prop where
 val:∃ (a:Option Addr) (cap:Nat),v = .slice a zs.length cap ∧ (0 < zs.length → ∃ b off,a = some ⟨b,off,none⟩ ∧ b < W.heap.size ∧ ∀ j,j < zs.length → W.cell? ⟨b,off + j,none⟩ = some (.int k (zs.getD j 0)))
 bound:∀ n ∈ zs,k.min ≤ n ∧ n ≤ k.max
end Opened
end
section
open Go.RowKit
namespace Mem
open Tp
theorem sl_one {α:Type} {f:α → Value} {W:World} {b off n cap:Nat} {l:List α} (h:Sl W (.slice (some ⟨b,off,none⟩) n cap) n (l.map f)) (hn:l.length = n) {j:Nat} {x:α} (hj:l[j]? = some x):W.cell? ⟨b,off + j,none⟩ = some (f x):=by
 have hj':=(List.getElem?_eq_some_iff.1 hj).1;exact (h.at (by omega)).2 j _ (by rw [List.getElem?_map,hj];rfl)
def u64C (n:Nat):Value:=.int .u64 (n:Int)
def i64C (n:Int):Value:=.int .i64 n
def strC (s:ByteArray):Value:=.string s
def boolC (b:Bool):Value:=.bool b
def fltC (n:Nat):Value:=.float .f64 n
def Us (W:World) (v:Value) (l:List Nat):Prop:=Sl W v l.length (l.map u64C)
def Is (W:World) (v:Value) (l:List Int):Prop:=Sl W v l.length (l.map i64C)
def Strs (W:World) (v:Value) (l:List ByteArray):Prop:=Sl W v l.length (l.map strC)
def Bools (W:World) (v:Value) (l:List Bool):Prop:=Sl W v l.length (l.map boolC)
def Fs (W:World) (v:Value) (l:List Nat):Prop:=Sl W v l.length (l.map fltC)
theorem map_snoc {α β:Type} (f:α → β) (l:List α) (x:α):(l ++ [x]).map f = l.map f ++ [f x]:=by simp
theorem is_ints {W:World} {v:Value} {l:List Int} (h:Is W v l) (hb:∀ n ∈ l,IntKind.i64.min ≤ n ∧ n ≤ IntKind.i64.max):Opened.Ints .i64 W v l:=by
 obtain ⟨a,cap,rfl,h1,h2,h3⟩:=h;refine ⟨⟨a,cap,rfl,fun h0 => ?_⟩,hb⟩
 obtain ⟨b,off,e,hlt,hc⟩:=h3 h0;refine ⟨b,off,e,hlt,fun j hj => hc j _ ?_⟩
 rw [List.getElem?_map,List.getElem?_eq_getElem hj];simp [i64C,List.getD,List.getElem?_eq_getElem hj]
def runC (p:Nat × Nat):List Value:=[.int .u64 (p.1:Int),.int .i64 (p.2:Int)]
theorem runC_len (p:Nat × Nat):(runC p).length = 2:=rfl
theorem runC_one (p:Nat × Nat):∀ u ∈ runC p,u.oneCell' = true:=by
 intro u hu;simp only [runC,List.mem_cons,List.not_mem_nil,or_false] at hu
 rcases hu with rfl | rfl <;> rfl
def Runs (W:World) (v:Value) (l:List (Nat × Nat)):Prop:=Sl W v l.length (l.flatMap runC)
def rowC (r:Rw):List Value:=[.int .i64 r.ch,.int .i64 r.pa,.string r.nm,.float .f64 r.rk]
def movC (m:Mv):List Value:=[.int .i64 m.t.c,.int .i64 m.t.r,.int .i64 m.pa,.int .i64 m.ch,.string m.nm,.float .f64 m.rk]
def mkC (m:Mk):List Value:=[.int .i64 m.rep,.int .i64 m.cnt]
def ddC (d:Dd):List Value:=[.int .i64 d.kind,.int .i64 d.who,.int .i64 d.frm,.int .i64 d.at_,.int .i64 d.pa,.int .i64 d.ch,.string d.nm,.float .f64 d.rk]
theorem rowC_len (r:Rw):(rowC r).length = 4:=rfl
theorem movC_len (m:Mv):(movC m).length = 6:=rfl
theorem mkC_len (m:Mk):(mkC m).length = 2:=rfl
theorem ddC_len (d:Dd):(ddC d).length = 8:=rfl
theorem rowC_one (r:Rw):∀ u ∈ rowC r,u.oneCell' = true:=by
 intro u hu;simp only [rowC,List.mem_cons,List.not_mem_nil,or_false] at hu
 rcases hu with rfl | rfl | rfl | rfl <;> rfl
theorem movC_one (m:Mv):∀ u ∈ movC m,u.oneCell' = true:=by
 intro u hu;simp only [movC,List.mem_cons,List.not_mem_nil,or_false] at hu
 rcases hu with rfl | rfl | rfl | rfl | rfl | rfl <;> rfl
theorem mkC_one (m:Mk):∀ u ∈ mkC m,u.oneCell' = true:=by
 intro u hu;simp only [mkC,List.mem_cons,List.not_mem_nil,or_false] at hu
 rcases hu with rfl | rfl <;> rfl
def Rows (W:World) (v:Value) (l:List Rw):Prop:=Sl W v l.length (l.flatMap rowC)
def Mvs (W:World) (v:Value) (l:List Mv):Prop:=Sl W v l.length (l.flatMap movC)
def Mks (W:World) (v:Value) (l:List Mk):Prop:=Sl W v l.length (l.flatMap mkC)
def Dds (W:World) (v:Value) (l:List Dd):Prop:=Sl W v l.length (l.flatMap ddC)
def rowV (r:Rw):Value:=.agg #[.int .i64 r.ch,.int .i64 r.pa,.string r.nm,.float .f64 r.rk]
def movV (m:Mv):Value:=.agg #[.int .i64 m.t.c,.int .i64 m.t.r,.int .i64 m.pa,.int .i64 m.ch,.string m.nm,.float .f64 m.rk]
def tmV (t:Tm):Value:=.agg #[.int .i64 t.c,.int .i64 t.r]
def mkV (m:Mk):Value:=.agg #[.int .i64 m.rep,.int .i64 m.cnt]
theorem row_at {W:World} {b off n cap:Nat} {l:List Rw} (h:Sl W (.slice (some ⟨b,off,none⟩) n cap) n (l.flatMap rowC)) (hn:l.length = n) {j:Nat} {x:Rw} (hj:l[j]? = some x) :
  W.cell? ⟨b,off + j * 4,none⟩ = some (.int .i64 x.ch) ∧ W.cell? ⟨b,off + j * 4 + 1,none⟩ = some (.int .i64 x.pa) ∧ W.cell? ⟨b,off + j * 4 + 2,none⟩ = some (.string x.nm) ∧ W.cell? ⟨b,off + j * 4 + 3,none⟩ = some (.float .f64 x.rk):=
 ⟨sl_at rowC_len h hn hj (i:=0) rfl,sl_at rowC_len h hn hj (i:=1) rfl,sl_at rowC_len h hn hj (i:=2) rfl,sl_at rowC_len h hn hj (i:=3) rfl⟩
theorem mov_at {W:World} {b off n cap:Nat} {l:List Mv} (h:Sl W (.slice (some ⟨b,off,none⟩) n cap) n (l.flatMap movC)) (hn:l.length = n) {j:Nat} {x:Mv} (hj:l[j]? = some x) :
  W.cell? ⟨b,off + j * 6,none⟩ = some (.int .i64 x.t.c) ∧ W.cell? ⟨b,off + j * 6 + 1,none⟩ = some (.int .i64 x.t.r) ∧ W.cell? ⟨b,off + j * 6 + 2,none⟩ = some (.int .i64 x.pa) ∧ W.cell? ⟨b,off + j * 6 + 3,none⟩ = some (.int .i64 x.ch) ∧ W.cell? ⟨b,off + j * 6 + 4,none⟩ = some (.string x.nm) ∧ W.cell? ⟨b,off + j * 6 + 5,none⟩ = some (.float .f64 x.rk):=
 ⟨sl_at movC_len h hn hj (i:=0) rfl,sl_at movC_len h hn hj (i:=1) rfl,sl_at movC_len h hn hj (i:=2) rfl,sl_at movC_len h hn hj (i:=3) rfl,sl_at movC_len h hn hj (i:=4) rfl,sl_at movC_len h hn hj (i:=5) rfl⟩
theorem mk_at {W:World} {b off n cap:Nat} {l:List Mk} (h:Sl W (.slice (some ⟨b,off,none⟩) n cap) n (l.flatMap mkC)) (hn:l.length = n) {j:Nat} {x:Mk} (hj:l[j]? = some x) :
  W.cell? ⟨b,off + j * 2,none⟩ = some (.int .i64 x.rep) ∧ W.cell? ⟨b,off + j * 2 + 1,none⟩ = some (.int .i64 x.cnt):=
 ⟨sl_at mkC_len h hn hj (i:=0) rfl,sl_at mkC_len h hn hj (i:=1) rfl⟩
theorem dd_at {W:World} {b off n cap:Nat} {l:List Dd} (h:Sl W (.slice (some ⟨b,off,none⟩) n cap) n (l.flatMap ddC)) (hn:l.length = n) {j:Nat} {x:Dd} (hj:l[j]? = some x) :
  W.cell? ⟨b,off + j * 8,none⟩ = some (.int .i64 x.kind) ∧ W.cell? ⟨b,off + j * 8 + 1,none⟩ = some (.int .i64 x.who) ∧ W.cell? ⟨b,off + j * 8 + 2,none⟩ = some (.int .i64 x.frm) ∧ W.cell? ⟨b,off + j * 8 + 3,none⟩ = some (.int .i64 x.at_) ∧ W.cell? ⟨b,off + j * 8 + 4,none⟩ = some (.int .i64 x.pa) ∧ W.cell? ⟨b,off + j * 8 + 5,none⟩ = some (.int .i64 x.ch) ∧ W.cell? ⟨b,off + j * 8 + 6,none⟩ = some (.string x.nm) ∧ W.cell? ⟨b,off + j * 8 + 7,none⟩ = some (.float .f64 x.rk):=
 ⟨sl_at ddC_len h hn hj (i:=0) rfl,sl_at ddC_len h hn hj (i:=1) rfl,sl_at ddC_len h hn hj (i:=2) rfl,sl_at ddC_len h hn hj (i:=3) rfl,sl_at ddC_len h hn hj (i:=4) rfl,sl_at ddC_len h hn hj (i:=5) rfl,sl_at ddC_len h hn hj (i:=6) rfl,sl_at ddC_len h hn hj (i:=7) rfl⟩
theorem run_at {W:World} {b off n cap:Nat} {l:List (Nat × Nat)} (h:Sl W (.slice (some ⟨b,off,none⟩) n cap) n (l.flatMap runC)) (hn:l.length = n) {j:Nat} {x:Nat × Nat} (hj:l[j]? = some x) :
  W.cell? ⟨b,off + j * 2,none⟩ = some (.int .u64 (x.1:Int)) ∧ W.cell? ⟨b,off + j * 2 + 1,none⟩ = some (.int .i64 (x.2:Int)):=
 ⟨sl_at runC_len h hn hj (i:=0) rfl,sl_at runC_len h hn hj (i:=1) rfl⟩
theorem infoRow:(Tryz.prog.info? 96).map (fun i => (i.zero,i.size,i.bytes)) = some (some (.agg #[.int .i64 0,.int .i64 0,.string ByteArray.empty,.float .f64 0]),4,40):=by kernel_rfl
theorem infoMov:(Tryz.prog.info? 49).map (fun i => (i.zero,i.size,i.bytes)) = some (some (.agg #[.int .i64 0,.int .i64 0,.int .i64 0,.int .i64 0,.string ByteArray.empty,.float .f64 0]),6,56):=by kernel_rfl
theorem infoMk:(Tryz.prog.info? 112).map (fun i => (i.zero,i.size,i.bytes)) = some (some (.agg #[.int .i64 0,.int .i64 0]),2,16):=by kernel_rfl
theorem infoRun:(Tryz.prog.info? 291).map (fun i => (i.zero,i.size,i.bytes)) = some (some (.agg #[.int .u64 0,.int .i64 0]),2,16):=by kernel_rfl
theorem infoRun2:(Tryz.prog.info? 213).map (fun i => (i.zero,i.size,i.bytes)) = some (some (.agg #[.int .u64 0,.int .i64 0]),2,16):=by kernel_rfl
theorem infoU:(Tryz.prog.info? 120).map (fun i => (i.zero,i.size,i.bytes)) = some (some (.int .u64 0),1,8):=by kernel_rfl
theorem infoS:(Tryz.prog.info? 9).map (fun i => (i.zero,i.size,i.bytes)) = some (some (.string ByteArray.empty),1,16):=by kernel_rfl
theorem infoBool:(Tryz.prog.info? 4).map (fun i => (i.zero,i.size,i.bytes)) = some (some (.bool false),1,1):=by kernel_rfl
end Mem
end
end Go.Proofs.YtnlijlknjhkoaaaGreat
section
namespace Go.Proofs
open Go.Shelf
def Tryz.lays169_ren:Go.Shelf.Ren:=⟨fun | 169 => 83 | n => n,fun | 70 => 141 | 9 => 9 | 0 => 0 | 72 => 143 | 37 => 76 | 127 => 196 | 3 => 3 | 5 => 5 | n => n,fun | n => n⟩
theorem Tryz.lays169:Go.Proofs.Lays.n169 Tryz.prog Tryz.lays169_ren:={
 mixed:=by kernel_rfl
 f169:=Tryz.func83.trans (congrArg some (by kernel_rfl))
 t0:=Tryz.underlying0
 a0:=Tryz.isAgg0
 z0:=Tryz.sizeOf0
 v0:=Tryz.zeroValue0
 t3:=Tryz.underlying3
 a3:=Tryz.isAgg3
 z3:=Tryz.sizeOf3
 v3:=Tryz.zeroValue3
 t9:=Tryz.underlying9
 a9:=Tryz.isAgg9
 z9:=Tryz.sizeOf9
 v9:=Tryz.zeroValue9
 t37:=Tryz.underlying76
 a37:=Tryz.isAgg76
 z37:=Tryz.sizeOf76
 v37:=Tryz.zeroValue76
 t70:=Tryz.underlying141
 a70:=Tryz.isAgg141
 z70:=Tryz.sizeOf141
 v70:=Tryz.zeroValue141
 t72:=Tryz.underlying143
 a72:=Tryz.isAgg143
 z72:=Tryz.sizeOf143
 v72:=Tryz.zeroValue143
 t127:=Tryz.underlying196
 a127:=Tryz.isAgg196
 z127:=Tryz.sizeOf196
 v127:=Tryz.zeroValue196 }
theorem Tryz.Builder_Extra_169:Builder.Extra Tryz.prog Tryz.lays169_ren:={
 sizeBuilder:=by kernel_rfl
 liesBuilder:=by kernel_rfl
 t5:=Tryz.underlying5
 a5:=Tryz.isAgg5
 z5:=Tryz.sizeOf5
 v5:=Tryz.zeroValue5
 infoByte:=by kernel_rfl
 cellsByte:=by kernel_rfl
 sizeByte:=by kernel_rfl
 neB5:=by decide }
def Tryz.lays103_ren:Go.Shelf.Ren:=⟨fun | 103 => 141 | 210 => 184 | 206 => 223 | n => n,fun | 9 => 9 | 4 => 4 | 24 => 219 | 3 => 3 | n => n,fun | n => n⟩
theorem Tryz.lays103:Go.Proofs.Lays.n103 Tryz.prog Tryz.lays103_ren:={
 mixed:=by kernel_rfl
 f103:=Tryz.func141.trans (congrArg some (by kernel_rfl))
 f206:=Tryz.func223.trans (congrArg some (by kernel_rfl))
 f210:=Tryz.func184.trans (congrArg some (by kernel_rfl))
 t3:=Tryz.underlying3
 a3:=Tryz.isAgg3
 z3:=Tryz.sizeOf3
 v3:=Tryz.zeroValue3
 t4:=Tryz.underlying4
 a4:=Tryz.isAgg4
 z4:=Tryz.sizeOf4
 v4:=Tryz.zeroValue4
 t9:=Tryz.underlying9
 a9:=Tryz.isAgg9
 z9:=Tryz.sizeOf9
 v9:=Tryz.zeroValue9
 t24:=Tryz.underlying219
 a24:=Tryz.isAgg219
 z24:=Tryz.sizeOf219
 v24:=Tryz.zeroValue219 }
open Go.RowKit in
theorem Tryz.strings_CutPrefix (s p:ByteArray) (w:World) :
  Calls Tryz.prog 141 #[.string s,.string p] w fun e w' => e = .returned (.tuple #[.string ⟨(Lib.trimPrefix s.data.toList p.data.toList).toArray⟩,.bool (Lib.hasPrefix s.data.toList p.data.toList)]) ∧ w' = w:=Any.strings_CutPrefix Tryz.lays103 s p w
open Go.RowKit in
theorem Tryz.Builder_String_any_k (B b:Nat) (l:List UInt8) (w:World) (h:Lib.IsBuilderF 143 5 B b (Lib.byteCells l) w) (hBw:B ≤ w.heap.size) :
  Calls Tryz.prog 83 #[.pointer (some ⟨b,0,none⟩)] w fun e w' => e = .returned (.string ⟨l.toArray⟩) ∧ (Lib.IsBuilderF 143 5 B b (Lib.byteCells l) w' ∧ Below B w w' ∧ Lib.OthersKept 5 (some b) w w'):=Any.Builder_String_any_k Tryz.lays169 Tryz.Builder_Extra_169 B b l w h hBw
def Tryz.lays264_ren:Go.Shelf.Ren:=⟨fun | 264 => 240 | n => n,fun | 53 => 120 | 46 => 176 | n => n,fun | n => n⟩
theorem Tryz.lays264:Go.Proofs.Lays.n264 Tryz.prog Tryz.lays264_ren:={
 mixed:=by kernel_rfl
 f264:=Tryz.func240.trans (congrArg some (by kernel_rfl))
 t46:=Tryz.underlying176
 a46:=Tryz.isAgg176
 z46:=Tryz.sizeOf176
 v46:=Tryz.zeroValue176
 t53:=Tryz.underlying120
 a53:=Tryz.isAgg120
 z53:=Tryz.sizeOf120
 v53:=Tryz.zeroValue120 }
open Go.RowKit Go.Lib in
theorem Tryz.bits_Mul64 (x y:Nat) (hx:x < 18446744073709551616) (hy:y < 18446744073709551616) (w:World) :
  Calls Tryz.prog 240 #[.int .u64 x,.int .u64 y] w fun e w' => e = .returned (.tuple #[.int .u64 ((x * y / 18446744073709551616:Nat):Int),.int .u64 ((x * y % 18446744073709551616:Nat):Int)]) ∧ w' = w:=Any.bits_Mul64 Tryz.lays264 x y hx hy w
end Go.Proofs
end
namespace Go.Proofs.YtnlijlknjhkoaaaGreat
section
open Go.RowKit
namespace Mem
theorem splice_len {l m:List Value} {o:Nat} (h:o + m.length ≤ l.length):(splice l o m).length = l.length:=by
 unfold splice;simp only [List.length_append,List.length_take,List.length_drop];omega
theorem splice_get {l m:List Value} {o:Nat} (h:o + m.length ≤ l.length) (j:Nat):(splice l o m)[j]? = if j < o then l[j]? else if j < o + m.length then m[j - o]? else l[j]?:=by
 unfold splice
 have hl:(l.take o).length = o:=by rw [List.length_take];omega
 by_cases h1:j < o
 ·rw [if_pos h1]
  first
   | rw [List.getElem?_append_left (by omega),List.getElem?_take_of_lt h1]
   | rw [List.getElem?_append_left (by simp only [List.length_append];omega),List.getElem?_append_left (by omega),List.getElem?_take_of_lt h1]
 ·rw [if_neg h1]
  by_cases h2:j < o + m.length
  ·rw [if_pos h2]
   first
    | rw [List.getElem?_append_right (by omega),List.getElem?_append_left (by omega),hl]
    | rw [List.getElem?_append_left (by simp only [List.length_append];omega),List.getElem?_append_right (by omega),hl]
  ·rw [if_neg h2]
   first
    | rw [List.getElem?_append_right (by omega),List.getElem?_append_right (by omega),hl,List.getElem?_drop,show o + m.length + (j - o - m.length) = j by omega]
    | rw [List.getElem?_append_right (by simp only [List.length_append];omega),List.getElem?_drop,List.length_append,hl,show o + m.length + (j - (o + m.length)) = j by omega]
theorem ins_get {cs xs:List Value} {i k:Nat} (hi:i ≤ cs.length) (hx:xs.length = k) (j:Nat):(cs.take i ++ xs ++ cs.drop i)[j]? = if j < i then cs[j]? else if j < i + k then xs[j - i]? else cs[j - k]?:=by
 have hl:(cs.take i).length = i:=by rw [List.length_take];omega
 have hl2:(cs.take i ++ xs).length = i + k:=by rw [List.length_append];omega
 by_cases h1:j < i
 ·rw [if_pos h1,List.getElem?_append_left (by omega),List.getElem?_append_left (by omega),List.getElem?_take_of_lt h1]
 ·rw [if_neg h1]
  by_cases h2:j < i + k
  ·rw [if_pos h2,List.getElem?_append_left (by omega),List.getElem?_append_right (by omega),hl]
  ·rw [if_neg h2,List.getElem?_append_right (by omega),hl2,List.getElem?_drop,show i + (j - (i + k)) = j - k by omega]
theorem shifted {cur cs xs:List Value} {n i k:Nat} (hc:cur.take n = cs) (hi:i ≤ n) (hx:xs.length = k) (hl:n + k ≤ cur.length):(splice (splice cur (i + k) (cs.drop i)) i xs).take (n + k) = cs.take i ++ xs ++ cs.drop i:=by
 have hcl:cs.length = n:=by rw [← hc,List.length_take];omega
 have hdl:(cs.drop i).length = n - i:=by rw [List.length_drop,hcl]
 have hs1:(splice cur (i + k) (cs.drop i)).length = cur.length:=splice_len (by omega)
 apply List.ext_getElem?
 intro j;rw [ins_get (by omega) hx,List.getElem?_take]
 by_cases h0:j < n + k
 ·rw [if_pos h0,splice_get (by omega),splice_get (by omega),hx,hdl]
  by_cases h1:j < i
  ·rw [if_pos h1,if_pos (by omega),if_pos h1,← hc,List.getElem?_take_of_lt (by omega)]
  ·rw [if_neg h1,if_neg h1]
   by_cases h2:j < i + k
   ·rw [if_pos h2,if_pos h2]
   ·rw [if_neg h2,if_neg h2,if_neg h2,if_pos (by omega),List.getElem?_drop,show i + (j - (i + k)) = j - k by omega]
 ·rw [if_neg h0,if_neg (by omega),if_neg (by omega),List.getElem?_eq_none (by omega)]
theorem laid {cs xs Z:List Value} {n i k:Nat} (hcl:cs.length = n) (hi:i ≤ n) (hx:xs.length = k) (hl:n - i + k ≤ Z.length):(splice (splice (cs.take i ++ Z) i xs) (i + k) (cs.drop i)).take (n + k) = cs.take i ++ xs ++ cs.drop i:=by
 have hdl:(cs.drop i).length = n - i:=by rw [List.length_drop,hcl]
 have htl:(cs.take i).length = i:=by rw [List.length_take];omega
 have hal:(cs.take i ++ Z).length = i + Z.length:=by rw [List.length_append,htl]
 have hs1:(splice (cs.take i ++ Z) i xs).length = i + Z.length:=by rw [splice_len (by omega),hal]
 apply List.ext_getElem?
 intro j;rw [ins_get (by omega) hx,List.getElem?_take]
 by_cases h0:j < n + k
 ·rw [if_pos h0,splice_get (by omega),splice_get (by omega),hx,hdl]
  by_cases h1:j < i
  ·rw [if_pos (by omega),if_pos h1,if_pos h1,List.getElem?_append_left (by omega),List.getElem?_take_of_lt h1]
  ·rw [if_neg h1,if_neg h1]
   by_cases h2:j < i + k
   ·rw [if_pos h2,if_pos h2,if_pos h2]
   ·rw [if_neg h2,if_pos (by omega),List.getElem?_drop,show i + (j - (i + k)) = j - k by omega,if_neg h2]
 ·rw [if_neg h0,if_neg (by omega),if_neg (by omega),List.getElem?_eq_none (by omega)]
theorem insertRow_room (g c n i:Nat) (cur cs xs:List Value) (B vb vc:Nat) (w:World) (hB:B ≤ g) (hh:w.heap[g]? = some (.cells cur.toArray 96 (0,0))) (hlen:cur.length = c * 4) (hm:c ≤ maxLen) (hcur:cur.take (n * 4) = cs)
  (hroom:n + 1 ≤ c) (hi:i < n) (hn:n ≤ 5000) (hx:xs.length = 4) (hx1:∀ u ∈ xs,u.oneCell' = true) (hc1:∀ u ∈ cs,u.oneCell' = true)
  (hvb:w.heap[vb]? = some (.cells xs.toArray 96 (0,0))) (hne:g ≠ vb) :
  Calls Tryz.prog 169 #[.slice (some ⟨g,0,none⟩) n c,.int .i64 (i:Nat),.slice (some ⟨vb,0,none⟩) 1 vc] w fun e w' => ∃ v',e = .returned v' ∧ w'.ownsRow B 96 4 v' (n + 1) (cs.take (i * 4) ++ xs ++ cs.drop (i * 4)) ∧ Below B w w':=by
 obtain ⟨i0,hinf,hz0,hz1,hz2⟩:=info_parts infoRow
 have hsz:(Tryz.prog.info? 96).map (·.size) = some 4:=by rw [hinf];simp [hz1]
 have hsz':∀ w,(sizeOf 96).run Tryz.prog w = .ok 4 w:=Tryz.sizeOf96
 have hov:∀ ob lb cb,(callFunc 216 #[.slice (some ⟨vb,0,none⟩) 1 vc,.slice (some ⟨g,ob,none⟩) lb cb]).run Tryz.prog w = .ok (.value (.bool false)) w:=fun ob lb cb => by
  rw [run_callFunc_extern (Tryz.func216) (by kernel_rfl) (by kernel_rfl) (by kernel_rfl) (e:=Extern.SlicesOverlaps.overlaps #[31,31] #[4]) (by kernel_rfl)];rw [Lib.run_overlaps_apart w 31 4 96 Tryz.underlying31 4 hsz' ⟨vb,0,none⟩ ⟨g,ob,none⟩ 1 vc lb cb (fun e => hne e.symm) 96 96 4 (c * 4) (by simp [World.shape?,hvb,hx]) (by simp [World.shape?,hh,hlen]) (by omega) (free_at hvb 0) (free_at hvb _)]
  rfl
 have hcl:cs.length = n * 4:=by rw [← hcur,List.length_take];omega
 have hdl:(cs.drop (i * 4)).length = (n - i) * 4:=by rw [List.length_drop,hcl];omega
 have r1:¬ ((i:Int) = (n:Int)):=by omega
 have r2:decide ((c:Int) < (n:Int) + 1) = false:=decide_eq_false (by omega)
 have r3:IntKind.i64.wrap ((n:Int) + 1) = (n:Int) + 1:=by rw [IntKind.wrap_i64];omega
 have r4:IntKind.i64.wrap ((i:Int) + 1) = (i:Int) + 1:=by rw [IntKind.wrap_i64];omega
 have b1:(0:Int) ≤ (i:Int):=by omega
 have b2:(i:Int) ≤ (n:Int):=by omega
 have b3:(n:Int) ≤ (c:Int):=by omega
 have b4:(0:Int) ≤ (n:Int) + 1:=by omega
 have b5:(n:Int) + 1 ≤ (c:Int):=by omega
 have b6:(i:Int) + 1 ≤ (n:Int) + 1:=by omega
 have b7:(0:Int) ≤ (i:Int) + 1:=by omega
 have b8:((n:Int) + 1).toNat = n + 1:=by omega
 have b9:((i:Int) + 1).toNat = i + 1:=by omega
 have b10:¬ c = i:=by omega
 have b11:¬ c = i + 1:=by omega
 have b12:(i:Int) ≤ (n:Int) + 1:=by omega
 have hk:=shifted (k:=4) hcur (i:=i * 4) (by omega) hx (by omega);rw [show i * 4 + 4 = (i + 1) * 4 by omega,show n * 4 + 4 = (n + 1) * 4 by omega] at hk;replace hk:=hid hk;have hsl:=splice_len (l:=cur) (m:=cs.drop (i * 4)) (o:=(i + 1) * 4) (by omega);have hsl2:=splice_len (l:=splice cur ((i + 1) * 4) (cs.drop (i * 4))) (m:=xs) (o:=i * 4) (by omega)
 have hfit1:(i + 1) * 4 + (cs.drop (i * 4)).length ≤ cur.length:=by rw [hdl];omega
 have hfit2:i * 4 + xs.length ≤ (splice cur ((i + 1) * 4) (cs.drop (i * 4))).length:=by rw [hsl,hx];omega
 have hil:Hid ((cs.take (i * 4) ++ xs ++ cs.drop (i * 4)).length = (n + 1) * 4):=hid (by rw [List.length_append,List.length_append,List.length_take,hdl,hcl,hx];omega);have hlen':=hid hlen;have hh':=hid hh;have hvb':=hid hvb
 have hcd:Hid (∀ (j:Nat) (v:Value),(cs.drop (i * 4))[j]? = some v → w.cell? ⟨g,i * 4 + j,none⟩ = some v):=hid (fun j v hj => by
  rw [List.getElem?_drop,← hcur,List.getElem?_take] at hj
  split at hj
  ·exact block_cells (cs:=cur.toArray) hh _ _ (by simpa using hj)
  ·cases hj)
 have hcd1:∀ u ∈ cs.drop (i * 4),u.oneCell' = true:=fun u hu => hc1 u (List.mem_of_mem_drop hu)
 have hvl:=lt_of_block hvb;clear hcur hh hvb hc1 hlen;go_enter Tryz.func169,Tryz.ntmps169
 go_wp2_with (simp only [hov])
 go_region_held3 (fun W:World => Below 0 W W) (exact Below.refl _ _) ((refine step_copy_spliceK (by rfl) (.tmp 73) (.tmp 76) 31 31 (by rfl) 96 4 Tryz.underlying31 hsz _ _ _ _ _ _ (by rfl) (by rfl) g ((i + 1) * 4) cur 96 hh'.out (cs.drop (i * 4)) (n - i) (by show min _ _ = _;omega) (by rw [hdl]) (fun _ => ⟨rfl,⟨g,i * 4,none⟩,rfl,fun j v hj => ?_⟩) hfit1 hcd1 ?_;(rw [Addr.add_lit];exact hcd.out j v hj);intro w3 hg3 hB3 hO3))
 all_goals
  have hvb3:=hid ((hO3.out vb (fun e => hne e.symm)).trans hvb'.out)
  go_wp2_with (refine wpList_copy_spliceK (by rfl) _ _ 31 31 (by rfl) 96 4 Tryz.underlying31 hsz _ _ _ _ _ _ (by rfl) (by rfl) g (i * 4) (splice cur ((i + 1) * 4) (cs.drop (i * 4))) 96 hg3.out xs 1 (by show min _ _ = _;omega) hx (fun _ => ⟨rfl,⟨vb,0,none⟩,rfl,fun j v hj => ?_⟩) hfit2 hx1 ?_;(rw [Addr.add_lit,Nat.zero_add];exact block_cells hvb3.out j v hj);intro w4 hg4 hB4 hO4)
  go_ret;exact ⟨_,rfl,⟨hil.out,.inr ⟨g,c,_,rfl,hB,hg4.out,by omega,hm,by simp only [List.size_toArray];rw [hsl2,hsl,hlen'.out],by rw [List.toList_toArray];exact hk.out⟩⟩,hB4.out _ _ (hB3.out _ _ (Below.refl _ _).drew hB) hB⟩
theorem insertRow_grow (g c n i:Nat) (cs xs:List Value) (B vb vc:Nat) (w:World) (hB:B ≤ w.heap.size) (hcs:∀ (j:Nat) (v:Value),cs[j]? = some v → w.cell? ⟨g,j,none⟩ = some v) (hcl:cs.length = n * 4) (hnc:n ≤ c)
  (hroom:c < n + 1) (hi:i < n) (hn:n ≤ 5000) (hx:xs.length = 4) (hx1:∀ u ∈ xs,u.oneCell' = true) (hc1:∀ u ∈ cs,u.oneCell' = true)
  (hvb:w.heap[vb]? = some (.cells xs.toArray 96 (0,0))) :
  Calls Tryz.prog 169 #[.slice (some ⟨g,0,none⟩) n c,.int .i64 (i:Nat),.slice (some ⟨vb,0,none⟩) 1 vc] w fun e w' => ∃ v',e = .returned v' ∧ w'.ownsRow B 96 4 v' (n + 1) (cs.take (i * 4) ++ xs ++ cs.drop (i * 4)) ∧ Below B w w':=by
 obtain ⟨i0,hinf,hz0,hz1,hz2⟩:=info_parts infoRow
 have hsz:(Tryz.prog.info? 96).map (·.size) = some 4:=by rw [hinf];simp [hz1]
 obtain ⟨G,hG⟩:∃ G,G = grownCap w (n + 1) c 96:=⟨_,rfl⟩
 have hGn:n + 1 ≤ G:=by rw [hG];exact grownCap_ge w _ _ _
 have hGm:G ≤ maxLen:=by rw [hG];exact grownCap_le_maxLen w (n + 1) c _ (by unfold maxLen;omega)
 have hdl:(cs.drop (i * 4)).length = (n - i) * 4:=by rw [List.length_drop,hcl];omega
 have htl:(cs.take (i * 4)).length = i * 4:=by rw [List.length_take,hcl];omega
 have hgw:g < w.heap.size:=World.block_lt_of_cell? _ _ (hcs 0 _ (List.getElem?_eq_getElem (by omega)));have hvl:=lt_of_block hvb
 have hkk:(n:Int) + 1 - (i:Int) = ((n + 1 - i:Nat):Int):=by omega
 have hik:i + (n + 1 - i) = n + 1:=by omega
 have hold:(Builtin.firstCells i0.size i (.slice (some ⟨g,0,none⟩) i c)).run Tryz.prog w.drew = .ok (cs.take (i * 4)).toArray w.drew:=by
  rw [hz1];refine run_firstCells_some w.drew 4 i ⟨g,0,none⟩ i c (cs.take (i * 4)) htl (fun j v hj => ?_)
  rw [Addr.add_lit,Nat.zero_add];rw [List.getElem?_take] at hj
  split at hj
  ·exact hcs j v hj
  ·cases hj
 obtain ⟨Z,hZ,hZl⟩:∃ Z:List Value,(cs.take (i * 4)).toArray ++ Builtin.zeroCells (.agg #[.int .i64 0,.int .i64 0,.string ByteArray.empty,.float .f64 0]:Value).cells (n + 1 - i) ++ Builtin.zeroCells (.agg #[.int .i64 0,.int .i64 0,.string ByteArray.empty,.float .f64 0]:Value).cells (G - (n + 1)) = (cs.take (i * 4) ++ Z).toArray ∧ Z.length = (G - i) * 4:=
  ⟨(Builtin.zeroCells (.agg #[.int .i64 0,.int .i64 0,.string ByteArray.empty,.float .f64 0]:Value).cells (n + 1 - i)).toList ++ (Builtin.zeroCells (.agg #[.int .i64 0,.int .i64 0,.string ByteArray.empty,.float .f64 0]:Value).cells (G - (n + 1))).toList,by simp,by
   rw [List.length_append,Array.length_toList,Array.length_toList,size_zeroCells,size_zeroCells,show (.agg #[.int .i64 0,.int .i64 0,.string ByteArray.empty,.float .f64 0]:Value).cells.size = 4 from rfl];omega⟩
 have hrz:∀ ty,(Builtin.append_ #[31,3] ty #[.slice (some ⟨g,0,none⟩) i c,.int .i64 ((n:Int) + 1 - (i:Int))]).run Tryz.prog w =
   .ok (.slice (some ⟨w.heap.size,0,none⟩) (n + 1) G) (w.drew.alloc (.cells (cs.take (i * 4) ++ Z).toArray 96)):=fun ty => by
  have h:=Lib.run_append_grow_zeros w 31 3 ty 96 i0 _ .i64 .i64 Tryz.underlying31 Tryz.underlying3 hinf hz0 (some ⟨g,0,none⟩) i c (cs.take (i * 4)) hold (n + 1 - i) (by omega) (by omega) (by omega) (by omega) (by rw [hz2];omega) (by rw [hz2,hik];exact growslice_fits hroom (by omega));rw [hik,← hG,hZ] at h;rw [hkk];exact h
 have hne2:g ≠ w.heap.size:=by omega
 have hk:=laid (k:=4) (Z:=Z) hcl (i:=i * 4) (by omega) hx (by omega);rw [show i * 4 + 4 = (i + 1) * 4 by omega,show n * 4 + 4 = (n + 1) * 4 by omega] at hk;replace hk:=hid hk
 have hal:(cs.take (i * 4) ++ Z).length = G * 4:=by rw [List.length_append,htl,hZl];omega
 have hsl:=splice_len (l:=cs.take (i * 4) ++ Z) (m:=xs) (o:=i * 4) (by rw [hal,hx];omega)
 have hfit1:i * 4 + xs.length ≤ (cs.take (i * 4) ++ Z).length:=by rw [hal,hx];omega
 have hfit2:(i + 1) * 4 + (cs.drop (i * 4)).length ≤ (splice (cs.take (i * 4) ++ Z) (i * 4) xs).length:=by rw [hsl,hal,hdl];omega
 have hsl2:=splice_len (l:=splice (cs.take (i * 4) ++ Z) (i * 4) xs) (m:=cs.drop (i * 4)) (o:=(i + 1) * 4) hfit2;have hil:Hid ((cs.take (i * 4) ++ xs ++ cs.drop (i * 4)).length = (n + 1) * 4):=hid (by rw [List.length_append,List.length_append,htl,hdl,hx];omega);have hlen':=hid ((hsl2.trans hsl).trans hal)
 have hcd1:∀ u ∈ cs.drop (i * 4),u.oneCell' = true:=fun u hu => hc1 u (List.mem_of_mem_drop hu)
 have hcd:Hid (∀ (j:Nat) (v:Value),(cs.drop (i * 4))[j]? = some v → w.cell? ⟨g,i * 4 + j,none⟩ = some v):=hid (fun j v hj => hcs _ _ (by rwa [List.getElem?_drop] at hj));obtain ⟨W1,hW1⟩:∃ W1,W1 = w.drew.alloc (.cells (cs.take (i * 4) ++ Z).toArray 96):=⟨_,rfl⟩;rw [← hW1] at hrz;have hg1:Hid (W1.heap[w.heap.size]? = some (.cells (cs.take (i * 4) ++ Z).toArray 96 (0,0))):=hid (by rw [hW1];exact alloc_new w.drew _);have hv1:Hid (W1.heap[vb]? = some (.cells xs.toArray 96 (0,0))):=hid (by rw [hW1];exact alloc_at _ hvb)
 have hcd2:Hid (∀ (j:Nat) (v:Value),(cs.drop (i * 4))[j]? = some v → W1.cell? ⟨g,i * 4 + j,none⟩ = some v):=hid (fun j v hj => by rw [hW1];exact (((Below.refl w.heap.size w).drew.alloc (Nat.le_refl _) _).cell (p:=⟨g,i * 4 + j,none⟩) hgw).trans (hcd.out j v hj));have hb1:Hid (Below B w W1):=hid (by rw [hW1];exact (Below.refl B w).drew.alloc hB _)
 have hvne:vb ≠ w.heap.size:=by omega
 have r1:¬ ((i:Int) = (n:Int)):=by omega
 have r2:decide ((c:Int) < (n:Int) + 1) = true:=decide_eq_true (by omega)
 have r2':(c:Int) < (n:Int) + 1:=by omega
 have r3:IntKind.i64.wrap ((n:Int) + 1) = (n:Int) + 1:=by rw [IntKind.wrap_i64];omega
 have r4:IntKind.i64.wrap ((i:Int) + 1) = (i:Int) + 1:=by rw [IntKind.wrap_i64];omega
 have r5:IntKind.i64.wrap ((n:Int) + 1 - (i:Int)) = (n:Int) + 1 - (i:Int):=by rw [IntKind.wrap_i64];omega
 have b1:(0:Int) ≤ (i:Int):=by omega
 have b2:(i:Int) ≤ (n:Int):=by omega
 have b3:(n:Int) ≤ (c:Int):=by omega
 have b13:(i:Int) ≤ (c:Int):=by omega
 have b4:(0:Int) ≤ (n:Int) + 1:=by omega
 have b6:(i:Int) + 1 ≤ (n:Int) + 1:=by omega
 have b7:(0:Int) ≤ (i:Int) + 1:=by omega
 have b8:((n:Int) + 1).toNat = n + 1:=by omega
 have b9:((i:Int) + 1).toNat = i + 1:=by omega
 have b10:¬ c = i:=by omega
 have b11:¬ G = i:=by omega
 have b14:¬ G = i + 1:=by omega
 have b12:(i:Int) ≤ (n:Int) + 1:=by omega
 have b15:(n:Int) + 1 ≤ (G:Int):=by omega
 clear hW1 hold hik hkk hG hZ hZl hcs hcl hvb hsl hsl2 hal htl;generalize cs.take (i * 4) ++ Z = row at *;go_enter Tryz.func169,Tryz.ntmps169
 go_wp2_with (first | (at_builtin;refine Lib.wpList_append_run _ rfl _ _ _ _ rfl _ _ rfl rfl _ _ (hrz _) ?_) | (refine wpList_copy_spliceK (by rfl) _ _ 31 31 (by rfl) 96 4 Tryz.underlying31 hsz _ _ _ _ _ _ (by rfl) (by rfl) w.heap.size (i * 4) row 96 hg1.out xs 1 (by show min _ _ = _;omega) hx (fun _ => ⟨rfl,⟨vb,0,none⟩,rfl,fun j v hj => ?_⟩) hfit1 hx1 ?_;(rw [Addr.add_lit,Nat.zero_add];exact block_cells hv1.out j v hj);intro w3 hg3 hB3 hO3))
 have hcd3:Hid (∀ (j:Nat) (v:Value),(cs.drop (i * 4))[j]? = some v → w3.cell? ⟨g,i * 4 + j,none⟩ = some v):=hid (fun j v hj => (World.cell?_of_block (a:=⟨g,i * 4 + j,none⟩) (hO3.out g hne2)).trans (hcd2.out j v hj))
 go_region_held3 (fun W:World => Below 0 W W) (exact Below.refl _ _) ((refine step_copy_spliceK (by rfl) (.tmp 50) (.tmp 53) 31 31 (by rfl) 96 4 Tryz.underlying31 hsz _ _ _ _ _ _ (by rfl) (by rfl) w.heap.size ((i + 1) * 4) (splice row (i * 4) xs) 96 hg3.out (cs.drop (i * 4)) (n - i) (by show min _ _ = _;omega) (by rw [hdl]) (fun _ => ⟨rfl,⟨g,i * 4,none⟩,rfl,fun j v hj => ?_⟩) hfit2 hcd1 ?_;(rw [Addr.add_lit];exact hcd3.out j v hj);intro w4 hg4 hB4 hO4))
 all_goals
  go_wp2_with fail;go_ret;exact ⟨_,rfl,⟨hil.out,.inr ⟨w.heap.size,G,_,rfl,hB,hg4.out,hGn,hGm,by simp only [List.size_toArray];exact hlen'.out,by rw [List.toList_toArray];exact hk.out⟩⟩,hB4.out _ _ (hB3.out _ _ hb1.out hB).drew hB⟩
theorem insertRow_end (v:Value) (n:Nat) (cs xs:List Value) (B vb vc:Nat) (w:World) (hO:w.ownsRow B 96 4 v n cs) (hB:B ≤ w.heap.size) (hn:n ≤ 5000) (hx:xs.length = 4) (hx1:∀ u ∈ xs,u.oneCell' = true)
  (hvb:w.heap[vb]? = some (.cells xs.toArray 96 (0,0))) :
  Calls Tryz.prog 169 #[v,.int .i64 (n:Nat),.slice (some ⟨vb,0,none⟩) 1 vc] w fun e w' => ∃ v',e = .returned v' ∧ w'.ownsRow B 96 4 v' (n + 1) (cs ++ xs) ∧ Below B w w':=by
 obtain ⟨i0,hinf,hz0,hz1,hz2⟩:=info_parts infoRow;have HO:=hid hO;have hlo:=hid hO.lt
 have b1:(0:Int) ≤ (n:Int):=by omega
 have hvb':=hid hvb
 have key:∀ a c,v = .slice a n c → (n:Int) ≤ (c:Int) ∧ (a = none → c = 0 ∧ n = 0) ∧ (∀ ad,a = some ad → ∃ g,ad = ⟨g,0,none⟩):=by
  rintro a c rfl
  rcases own_slice' hO with ⟨h1,h2,-⟩ | ⟨g,cap,h1,-,-,h2,-⟩
  ·cases h1;exact ⟨by omega,(fun _ => ⟨rfl,rfl⟩),(fun ad h => by cases h)⟩
  ·cases h1;exact ⟨by omega,(fun h => by cases h),(fun ad h => by cases h;exact ⟨g,rfl⟩)⟩
 obtain ⟨a,c,rfl⟩:=(own_sl hO).len;obtain ⟨hc,hnil,hso⟩:=key a c rfl;clear hO hvb key;go_enter Tryz.func169,Tryz.ntmps169
 cases a with
 | none =>
  obtain ⟨rfl,rfl⟩:=hnil rfl
  go_wp2_with (at_builtin;refine wpList_append_src (by rfl) _ _ 31 (by rfl) B 96 i0 _ 4 40 Tryz.underlying31 hinf hz0 hz1 hz2 rfl (by decide) _ 0 cs (by rfl) HO.out _ 1 xs (by rfl) hx (src_new hvb'.out _) hx1 (by unfold maxLen;omega) (by omega) hB ?_;intro v5 w5 hown hgrow;replace hown:=hid hown;replace hgrow:=hid hgrow)
  go_ret;exact ⟨_,rfl,hown.out,(Below.refl B w).grown hgrow.out hB (fun j e => (hlo.out j e).1)⟩
 | some ad =>
  obtain ⟨g,rfl⟩:=hso ad rfl
  by_cases hcn:c = n
  ·subst hcn
   go_wp2_with (at_builtin;refine wpList_append_src (by rfl) _ _ 31 (by rfl) B 96 i0 _ 4 40 Tryz.underlying31 hinf hz0 hz1 hz2 rfl (by decide) _ c cs (by rfl) HO.out _ 1 xs (by rfl) hx (src_new hvb'.out _) hx1 (by unfold maxLen;omega) (by omega) hB ?_;intro v5 w5 hown hgrow;replace hown:=hid hown;replace hgrow:=hid hgrow)
   go_ret;exact ⟨_,rfl,hown.out,(Below.refl B w).grown hgrow.out hB (fun j e => (hlo.out j e).1)⟩
  ·go_wp2_with (at_builtin;refine wpList_append_src (by rfl) _ _ 31 (by rfl) B 96 i0 _ 4 40 Tryz.underlying31 hinf hz0 hz1 hz2 rfl (by decide) _ n cs (by rfl) HO.out _ 1 xs (by rfl) hx (src_new hvb'.out _) hx1 (by unfold maxLen;omega) (by omega) hB ?_;intro v5 w5 hown hgrow;replace hown:=hid hown;replace hgrow:=hid hgrow)
   go_ret;exact ⟨_,rfl,hown.out,(Below.refl B w).grown hgrow.out hB (fun j e => (hlo.out j e).1)⟩
theorem insertRow_any (v:Value) (n i:Nat) (cs xs:List Value) (B vb vc:Nat) (w:World) (hO:w.ownsRow B 96 4 v n cs) (hB:B ≤ w.heap.size) (hi:i ≤ n) (hn:n ≤ 5000) (hx:xs.length = 4) (hx1:∀ u ∈ xs,u.oneCell' = true) (hc1:∀ u ∈ cs,u.oneCell' = true)
  (hvb:w.heap[vb]? = some (.cells xs.toArray 96 (0,0))) (hne:∀ g c,v = .slice (some ⟨g,0,none⟩) n c → g ≠ vb) :
  Calls Tryz.prog 169 #[v,.int .i64 (i:Nat),.slice (some ⟨vb,0,none⟩) 1 vc] w fun e w' => ∃ v',e = .returned v' ∧ w'.ownsRow B 96 4 v' (n + 1) (cs.take (i * 4) ++ xs ++ cs.drop (i * 4)) ∧ Below B w w':=by
 by_cases hin:i = n
 ·subst hin
  rw [List.take_of_length_le (by rw [hO.1];omega),List.drop_eq_nil_of_le (by rw [hO.1];omega),List.append_nil];exact insertRow_end v i cs xs B vb vc w hO hB hn hx hx1 hvb
 ·rcases hO.2 with ⟨-,h0⟩ | ⟨g,c,cur,rfl,hg,hh,hnc,hm,hs,ht⟩
  ·omega
  ·by_cases hroom:n + 1 ≤ c
   ·exact insertRow_room g c n i cur.toList cs xs B vb vc w hg (by rw [Array.toArray_toList];exact hh) (by rw [Array.length_toList];exact hs) hm ht hroom (by omega) hn hx hx1 hc1 hvb (hne g c rfl)
   ·refine insertRow_grow g c n i cs xs B vb vc w hB (fun j u hj => ?_) hO.1 hnc (by omega) (by omega) hn hx hx1 hc1 hvb
    rw [← ht,List.getElem?_take] at hj
    split at hj
    ·exact block_cells hh _ _ hj
    ·cases hj
theorem cloneRow_any (v:Value) (n:Nat) (cs:List Value) (w:World) (hS:Sl w v n cs) (hcl:cs.length = n * 4) (hn:n ≤ 5000) (hc1:∀ u ∈ cs,u.oneCell' = true) :
  Calls Tryz.prog 165 #[v] w fun e w' => ∃ v',e = .returned v' ∧ w'.ownsRow w.heap.size 96 4 v' n cs ∧ Below w.heap.size w w':=by
 obtain ⟨i0,hinf,hz0,hz1,hz2⟩:=info_parts infoRow
 have hsrc:=fun (x:Obj) => sl_src (hS.below ((Below.refl w.heap.size w).alloc (Nat.le_refl _) x)) (fun h => List.eq_nil_of_length_eq_zero (by rw [hcl,h]))
 have hown0:Hid ((w.alloc (.cells #[] 96)).ownsRow w.heap.size 96 4 (.slice (some ⟨w.heap.size,0,none⟩) 0 0) 0 []):=hid ⟨by simp,.inr ⟨w.heap.size,0,#[],rfl,Nat.le_refl _,alloc_new w _,Nat.le_refl _,by unfold maxLen;omega,by simp,by simp⟩⟩;replace hsrc:=hid hsrc
 have q22:∀ (w:World) (a:Option Addr) (n c n' c':Nat),(binOp .eql 31 (.slice a n c) (.slice none n' c')).run Tryz.prog w = .ok (.bool a.isNone) w:=fun w a n c n' c' => Lib.run_eql_slice_nil w _ _ a n c n' c' Tryz.underlying31
 obtain ⟨a,c,rfl,h1,h2,h3⟩:=hS;clear h3;go_enter Tryz.func165,Tryz.ntmps165
 cases a with
 | none =>
  obtain rfl:=h2 rfl
  obtain rfl:n = 0:=by omega
  obtain rfl:cs = []:=List.eq_nil_of_length_eq_zero (by omega);go_wp2_with fail;go_ret;exact ⟨_,rfl,World.ownsRow_nil _ _ _ _,Below.refl _ _⟩
 | some ad =>
  go_wp2_with (at_builtin;refine wpList_append_src (by rfl) _ _ 31 (by rfl) w.heap.size 96 i0 _ 4 40 Tryz.underlying31 hinf hz0 hz1 hz2 rfl (by decide) _ 0 [] (by rfl) hown0.out _ n cs (by rfl) hcl (hsrc.out _) hc1 (by unfold maxLen;omega) (by omega) (by simp) ?_;intro v5 w5 hown hgrow;replace hown:=hid hown;replace hgrow:=hid hgrow)
  go_ret;refine ⟨_,rfl,?_,(((Below.refl w.heap.size w).alloc (Nat.le_refl _) (.cells #[] 96))).grown hgrow.out (by simp) (fun j e => by cases e;exact Nat.le_refl _)⟩
  have:=hown.out
  rwa [Nat.zero_add,List.nil_append] at this
theorem insertMov_room (g c n i:Nat) (cur cs xs:List Value) (B vb vc:Nat) (w:World) (hB:B ≤ g) (hh:w.heap[g]? = some (.cells cur.toArray 49 (0,0))) (hlen:cur.length = c * 6) (hm:c ≤ maxLen) (hcur:cur.take (n * 6) = cs)
  (hroom:n + 1 ≤ c) (hi:i < n) (hn:n ≤ 5000) (hx:xs.length = 6) (hx1:∀ u ∈ xs,u.oneCell' = true) (hc1:∀ u ∈ cs,u.oneCell' = true)
  (hvb:w.heap[vb]? = some (.cells xs.toArray 49 (0,0))) (hne:g ≠ vb) :
  Calls Tryz.prog 58 #[.slice (some ⟨g,0,none⟩) n c,.int .i64 (i:Nat),.slice (some ⟨vb,0,none⟩) 1 vc] w fun e w' => ∃ v',e = .returned v' ∧ w'.ownsRow B 49 6 v' (n + 1) (cs.take (i * 6) ++ xs ++ cs.drop (i * 6)) ∧ Below B w w':=by
 obtain ⟨i0,hinf,hz0,hz1,hz2⟩:=info_parts infoMov
 have hsz:(Tryz.prog.info? 49).map (·.size) = some 6:=by rw [hinf];simp [hz1]
 have hsz':∀ w,(sizeOf 49).run Tryz.prog w = .ok 6 w:=Tryz.sizeOf49
 have hov:∀ ob lb cb,(callFunc 101 #[.slice (some ⟨vb,0,none⟩) 1 vc,.slice (some ⟨g,ob,none⟩) lb cb]).run Tryz.prog w = .ok (.value (.bool false)) w:=fun ob lb cb => by
  rw [run_callFunc_extern (Tryz.func101) (by kernel_rfl) (by kernel_rfl) (by kernel_rfl) (e:=Extern.SlicesOverlaps.overlaps #[25,25] #[4]) (by kernel_rfl)];rw [Lib.run_overlaps_apart w 25 4 49 Tryz.underlying25 6 hsz' ⟨vb,0,none⟩ ⟨g,ob,none⟩ 1 vc lb cb (fun e => hne e.symm) 49 49 6 (c * 6) (by simp [World.shape?,hvb,hx]) (by simp [World.shape?,hh,hlen]) (by omega) (free_at hvb 0) (free_at hvb _)]
  rfl
 have hcl:cs.length = n * 6:=by rw [← hcur,List.length_take];omega
 have hdl:(cs.drop (i * 6)).length = (n - i) * 6:=by rw [List.length_drop,hcl];omega
 have r1:¬ ((i:Int) = (n:Int)):=by omega
 have r2:decide ((c:Int) < (n:Int) + 1) = false:=decide_eq_false (by omega)
 have r3:IntKind.i64.wrap ((n:Int) + 1) = (n:Int) + 1:=by rw [IntKind.wrap_i64];omega
 have r4:IntKind.i64.wrap ((i:Int) + 1) = (i:Int) + 1:=by rw [IntKind.wrap_i64];omega
 have b1:(0:Int) ≤ (i:Int):=by omega
 have b2:(i:Int) ≤ (n:Int):=by omega
 have b3:(n:Int) ≤ (c:Int):=by omega
 have b4:(0:Int) ≤ (n:Int) + 1:=by omega
 have b5:(n:Int) + 1 ≤ (c:Int):=by omega
 have b6:(i:Int) + 1 ≤ (n:Int) + 1:=by omega
 have b7:(0:Int) ≤ (i:Int) + 1:=by omega
 have b8:((n:Int) + 1).toNat = n + 1:=by omega
 have b9:((i:Int) + 1).toNat = i + 1:=by omega
 have b10:¬ c = i:=by omega
 have b11:¬ c = i + 1:=by omega
 have b12:(i:Int) ≤ (n:Int) + 1:=by omega
 have hk:=shifted (k:=6) hcur (i:=i * 6) (by omega) hx (by omega);rw [show i * 6 + 6 = (i + 1) * 6 by omega,show n * 6 + 6 = (n + 1) * 6 by omega] at hk;replace hk:=hid hk;have hsl:=splice_len (l:=cur) (m:=cs.drop (i * 6)) (o:=(i + 1) * 6) (by omega);have hsl2:=splice_len (l:=splice cur ((i + 1) * 6) (cs.drop (i * 6))) (m:=xs) (o:=i * 6) (by omega)
 have hfit1:(i + 1) * 6 + (cs.drop (i * 6)).length ≤ cur.length:=by rw [hdl];omega
 have hfit2:i * 6 + xs.length ≤ (splice cur ((i + 1) * 6) (cs.drop (i * 6))).length:=by rw [hsl,hx];omega
 have hil:Hid ((cs.take (i * 6) ++ xs ++ cs.drop (i * 6)).length = (n + 1) * 6):=hid (by rw [List.length_append,List.length_append,List.length_take,hdl,hcl,hx];omega);have hlen':=hid hlen;have hh':=hid hh;have hvb':=hid hvb
 have hcd:Hid (∀ (j:Nat) (v:Value),(cs.drop (i * 6))[j]? = some v → w.cell? ⟨g,i * 6 + j,none⟩ = some v):=hid (fun j v hj => by
  rw [List.getElem?_drop,← hcur,List.getElem?_take] at hj
  split at hj
  ·exact block_cells (cs:=cur.toArray) hh _ _ (by simpa using hj)
  ·cases hj)
 have hcd1:∀ u ∈ cs.drop (i * 6),u.oneCell' = true:=fun u hu => hc1 u (List.mem_of_mem_drop hu)
 have hvl:=lt_of_block hvb;clear hcur hh hvb hc1 hlen;go_enter Tryz.func58,Tryz.ntmps58
 go_wp2_with (simp only [hov])
 go_region_held3 (fun W:World => Below 0 W W) (exact Below.refl _ _) ((refine step_copy_spliceK (by rfl) (.tmp 73) (.tmp 76) 25 25 (by rfl) 49 6 Tryz.underlying25 hsz _ _ _ _ _ _ (by rfl) (by rfl) g ((i + 1) * 6) cur 49 hh'.out (cs.drop (i * 6)) (n - i) (by show min _ _ = _;omega) (by rw [hdl]) (fun _ => ⟨rfl,⟨g,i * 6,none⟩,rfl,fun j v hj => ?_⟩) hfit1 hcd1 ?_;(rw [Addr.add_lit];exact hcd.out j v hj);intro w3 hg3 hB3 hO3))
 all_goals
  have hvb3:=hid ((hO3.out vb (fun e => hne e.symm)).trans hvb'.out)
  go_wp2_with (refine wpList_copy_spliceK (by rfl) _ _ 25 25 (by rfl) 49 6 Tryz.underlying25 hsz _ _ _ _ _ _ (by rfl) (by rfl) g (i * 6) (splice cur ((i + 1) * 6) (cs.drop (i * 6))) 49 hg3.out xs 1 (by show min _ _ = _;omega) hx (fun _ => ⟨rfl,⟨vb,0,none⟩,rfl,fun j v hj => ?_⟩) hfit2 hx1 ?_;(rw [Addr.add_lit,Nat.zero_add];exact block_cells hvb3.out j v hj);intro w4 hg4 hB4 hO4)
  go_ret;exact ⟨_,rfl,⟨hil.out,.inr ⟨g,c,_,rfl,hB,hg4.out,by omega,hm,by simp only [List.size_toArray];rw [hsl2,hsl,hlen'.out],by rw [List.toList_toArray];exact hk.out⟩⟩,hB4.out _ _ (hB3.out _ _ (Below.refl _ _).drew hB) hB⟩
theorem insertMov_grow (g c n i:Nat) (cs xs:List Value) (B vb vc:Nat) (w:World) (hB:B ≤ w.heap.size) (hcs:∀ (j:Nat) (v:Value),cs[j]? = some v → w.cell? ⟨g,j,none⟩ = some v) (hcl:cs.length = n * 6) (hnc:n ≤ c)
  (hroom:c < n + 1) (hi:i < n) (hn:n ≤ 5000) (hx:xs.length = 6) (hx1:∀ u ∈ xs,u.oneCell' = true) (hc1:∀ u ∈ cs,u.oneCell' = true)
  (hvb:w.heap[vb]? = some (.cells xs.toArray 49 (0,0))) :
  Calls Tryz.prog 58 #[.slice (some ⟨g,0,none⟩) n c,.int .i64 (i:Nat),.slice (some ⟨vb,0,none⟩) 1 vc] w fun e w' => ∃ v',e = .returned v' ∧ w'.ownsRow B 49 6 v' (n + 1) (cs.take (i * 6) ++ xs ++ cs.drop (i * 6)) ∧ Below B w w':=by
 obtain ⟨i0,hinf,hz0,hz1,hz2⟩:=info_parts infoMov
 have hsz:(Tryz.prog.info? 49).map (·.size) = some 6:=by rw [hinf];simp [hz1]
 obtain ⟨G,hG⟩:∃ G,G = grownCap w (n + 1) c 49:=⟨_,rfl⟩
 have hGn:n + 1 ≤ G:=by rw [hG];exact grownCap_ge w _ _ _
 have hGm:G ≤ maxLen:=by rw [hG];exact grownCap_le_maxLen w (n + 1) c _ (by unfold maxLen;omega)
 have hdl:(cs.drop (i * 6)).length = (n - i) * 6:=by rw [List.length_drop,hcl];omega
 have htl:(cs.take (i * 6)).length = i * 6:=by rw [List.length_take,hcl];omega
 have hgw:g < w.heap.size:=World.block_lt_of_cell? _ _ (hcs 0 _ (List.getElem?_eq_getElem (by omega)));have hvl:=lt_of_block hvb
 have hkk:(n:Int) + 1 - (i:Int) = ((n + 1 - i:Nat):Int):=by omega
 have hik:i + (n + 1 - i) = n + 1:=by omega
 have hold:(Builtin.firstCells i0.size i (.slice (some ⟨g,0,none⟩) i c)).run Tryz.prog w.drew = .ok (cs.take (i * 6)).toArray w.drew:=by
  rw [hz1];refine run_firstCells_some w.drew 6 i ⟨g,0,none⟩ i c (cs.take (i * 6)) htl (fun j v hj => ?_)
  rw [Addr.add_lit,Nat.zero_add];rw [List.getElem?_take] at hj
  split at hj
  ·exact hcs j v hj
  ·cases hj
 obtain ⟨Z,hZ,hZl⟩:∃ Z:List Value,(cs.take (i * 6)).toArray ++ Builtin.zeroCells (.agg #[.int .i64 0,.int .i64 0,.int .i64 0,.int .i64 0,.string ByteArray.empty,.float .f64 0]:Value).cells (n + 1 - i) ++ Builtin.zeroCells (.agg #[.int .i64 0,.int .i64 0,.int .i64 0,.int .i64 0,.string ByteArray.empty,.float .f64 0]:Value).cells (G - (n + 1)) = (cs.take (i * 6) ++ Z).toArray ∧ Z.length = (G - i) * 6:=
  ⟨(Builtin.zeroCells (.agg #[.int .i64 0,.int .i64 0,.int .i64 0,.int .i64 0,.string ByteArray.empty,.float .f64 0]:Value).cells (n + 1 - i)).toList ++ (Builtin.zeroCells (.agg #[.int .i64 0,.int .i64 0,.int .i64 0,.int .i64 0,.string ByteArray.empty,.float .f64 0]:Value).cells (G - (n + 1))).toList,by simp,by
   rw [List.length_append,Array.length_toList,Array.length_toList,size_zeroCells,size_zeroCells,show (.agg #[.int .i64 0,.int .i64 0,.int .i64 0,.int .i64 0,.string ByteArray.empty,.float .f64 0]:Value).cells.size = 6 from rfl];omega⟩
 have hrz:∀ ty,(Builtin.append_ #[25,3] ty #[.slice (some ⟨g,0,none⟩) i c,.int .i64 ((n:Int) + 1 - (i:Int))]).run Tryz.prog w =
   .ok (.slice (some ⟨w.heap.size,0,none⟩) (n + 1) G) (w.drew.alloc (.cells (cs.take (i * 6) ++ Z).toArray 49)):=fun ty => by
  have h:=Lib.run_append_grow_zeros w 25 3 ty 49 i0 _ .i64 .i64 Tryz.underlying25 Tryz.underlying3 hinf hz0 (some ⟨g,0,none⟩) i c (cs.take (i * 6)) hold (n + 1 - i) (by omega) (by omega) (by omega) (by omega) (by rw [hz2];omega) (by rw [hz2,hik];exact growslice_fits hroom (by omega));rw [hik,← hG,hZ] at h;rw [hkk];exact h
 have hne2:g ≠ w.heap.size:=by omega
 have hk:=laid (k:=6) (Z:=Z) hcl (i:=i * 6) (by omega) hx (by omega);rw [show i * 6 + 6 = (i + 1) * 6 by omega,show n * 6 + 6 = (n + 1) * 6 by omega] at hk;replace hk:=hid hk
 have hal:(cs.take (i * 6) ++ Z).length = G * 6:=by rw [List.length_append,htl,hZl];omega
 have hsl:=splice_len (l:=cs.take (i * 6) ++ Z) (m:=xs) (o:=i * 6) (by rw [hal,hx];omega)
 have hfit1:i * 6 + xs.length ≤ (cs.take (i * 6) ++ Z).length:=by rw [hal,hx];omega
 have hfit2:(i + 1) * 6 + (cs.drop (i * 6)).length ≤ (splice (cs.take (i * 6) ++ Z) (i * 6) xs).length:=by rw [hsl,hal,hdl];omega
 have hsl2:=splice_len (l:=splice (cs.take (i * 6) ++ Z) (i * 6) xs) (m:=cs.drop (i * 6)) (o:=(i + 1) * 6) hfit2;have hil:Hid ((cs.take (i * 6) ++ xs ++ cs.drop (i * 6)).length = (n + 1) * 6):=hid (by rw [List.length_append,List.length_append,htl,hdl,hx];omega);have hlen':=hid ((hsl2.trans hsl).trans hal)
 have hcd1:∀ u ∈ cs.drop (i * 6),u.oneCell' = true:=fun u hu => hc1 u (List.mem_of_mem_drop hu)
 have hcd:Hid (∀ (j:Nat) (v:Value),(cs.drop (i * 6))[j]? = some v → w.cell? ⟨g,i * 6 + j,none⟩ = some v):=hid (fun j v hj => hcs _ _ (by rwa [List.getElem?_drop] at hj));obtain ⟨W1,hW1⟩:∃ W1,W1 = w.drew.alloc (.cells (cs.take (i * 6) ++ Z).toArray 49):=⟨_,rfl⟩;rw [← hW1] at hrz;have hg1:Hid (W1.heap[w.heap.size]? = some (.cells (cs.take (i * 6) ++ Z).toArray 49 (0,0))):=hid (by rw [hW1];exact alloc_new w.drew _);have hv1:Hid (W1.heap[vb]? = some (.cells xs.toArray 49 (0,0))):=hid (by rw [hW1];exact alloc_at _ hvb)
 have hcd2:Hid (∀ (j:Nat) (v:Value),(cs.drop (i * 6))[j]? = some v → W1.cell? ⟨g,i * 6 + j,none⟩ = some v):=hid (fun j v hj => by rw [hW1];exact (((Below.refl w.heap.size w).drew.alloc (Nat.le_refl _) _).cell (p:=⟨g,i * 6 + j,none⟩) hgw).trans (hcd.out j v hj));have hb1:Hid (Below B w W1):=hid (by rw [hW1];exact (Below.refl B w).drew.alloc hB _)
 have hvne:vb ≠ w.heap.size:=by omega
 have r1:¬ ((i:Int) = (n:Int)):=by omega
 have r2:decide ((c:Int) < (n:Int) + 1) = true:=decide_eq_true (by omega)
 have r2':(c:Int) < (n:Int) + 1:=by omega
 have r3:IntKind.i64.wrap ((n:Int) + 1) = (n:Int) + 1:=by rw [IntKind.wrap_i64];omega
 have r4:IntKind.i64.wrap ((i:Int) + 1) = (i:Int) + 1:=by rw [IntKind.wrap_i64];omega
 have r5:IntKind.i64.wrap ((n:Int) + 1 - (i:Int)) = (n:Int) + 1 - (i:Int):=by rw [IntKind.wrap_i64];omega
 have b1:(0:Int) ≤ (i:Int):=by omega
 have b2:(i:Int) ≤ (n:Int):=by omega
 have b3:(n:Int) ≤ (c:Int):=by omega
 have b13:(i:Int) ≤ (c:Int):=by omega
 have b4:(0:Int) ≤ (n:Int) + 1:=by omega
 have b6:(i:Int) + 1 ≤ (n:Int) + 1:=by omega
 have b7:(0:Int) ≤ (i:Int) + 1:=by omega
 have b8:((n:Int) + 1).toNat = n + 1:=by omega
 have b9:((i:Int) + 1).toNat = i + 1:=by omega
 have b10:¬ c = i:=by omega
 have b11:¬ G = i:=by omega
 have b14:¬ G = i + 1:=by omega
 have b12:(i:Int) ≤ (n:Int) + 1:=by omega
 have b15:(n:Int) + 1 ≤ (G:Int):=by omega
 clear hW1 hold hik hkk hG hZ hZl hcs hcl hvb hsl hsl2 hal htl;generalize cs.take (i * 6) ++ Z = row at *;go_enter Tryz.func58,Tryz.ntmps58
 go_wp2_with (first | (at_builtin;refine Lib.wpList_append_run _ rfl _ _ _ _ rfl _ _ rfl rfl _ _ (hrz _) ?_) | (refine wpList_copy_spliceK (by rfl) _ _ 25 25 (by rfl) 49 6 Tryz.underlying25 hsz _ _ _ _ _ _ (by rfl) (by rfl) w.heap.size (i * 6) row 49 hg1.out xs 1 (by show min _ _ = _;omega) hx (fun _ => ⟨rfl,⟨vb,0,none⟩,rfl,fun j v hj => ?_⟩) hfit1 hx1 ?_;(rw [Addr.add_lit,Nat.zero_add];exact block_cells hv1.out j v hj);intro w3 hg3 hB3 hO3))
 have hcd3:Hid (∀ (j:Nat) (v:Value),(cs.drop (i * 6))[j]? = some v → w3.cell? ⟨g,i * 6 + j,none⟩ = some v):=hid (fun j v hj => (World.cell?_of_block (a:=⟨g,i * 6 + j,none⟩) (hO3.out g hne2)).trans (hcd2.out j v hj))
 go_region_held3 (fun W:World => Below 0 W W) (exact Below.refl _ _) ((refine step_copy_spliceK (by rfl) (.tmp 50) (.tmp 53) 25 25 (by rfl) 49 6 Tryz.underlying25 hsz _ _ _ _ _ _ (by rfl) (by rfl) w.heap.size ((i + 1) * 6) (splice row (i * 6) xs) 49 hg3.out (cs.drop (i * 6)) (n - i) (by show min _ _ = _;omega) (by rw [hdl]) (fun _ => ⟨rfl,⟨g,i * 6,none⟩,rfl,fun j v hj => ?_⟩) hfit2 hcd1 ?_;(rw [Addr.add_lit];exact hcd3.out j v hj);intro w4 hg4 hB4 hO4))
 all_goals
  go_wp2_with fail;go_ret;exact ⟨_,rfl,⟨hil.out,.inr ⟨w.heap.size,G,_,rfl,hB,hg4.out,hGn,hGm,by simp only [List.size_toArray];exact hlen'.out,by rw [List.toList_toArray];exact hk.out⟩⟩,hB4.out _ _ (hB3.out _ _ hb1.out hB).drew hB⟩
theorem insertMov_end (v:Value) (n:Nat) (cs xs:List Value) (B vb vc:Nat) (w:World) (hO:w.ownsRow B 49 6 v n cs) (hB:B ≤ w.heap.size) (hn:n ≤ 5000) (hx:xs.length = 6) (hx1:∀ u ∈ xs,u.oneCell' = true)
  (hvb:w.heap[vb]? = some (.cells xs.toArray 49 (0,0))) :
  Calls Tryz.prog 58 #[v,.int .i64 (n:Nat),.slice (some ⟨vb,0,none⟩) 1 vc] w fun e w' => ∃ v',e = .returned v' ∧ w'.ownsRow B 49 6 v' (n + 1) (cs ++ xs) ∧ Below B w w':=by
 obtain ⟨i0,hinf,hz0,hz1,hz2⟩:=info_parts infoMov;have HO:=hid hO;have hlo:=hid hO.lt
 have b1:(0:Int) ≤ (n:Int):=by omega
 have hvb':=hid hvb
 have key:∀ a c,v = .slice a n c → (n:Int) ≤ (c:Int) ∧ (a = none → c = 0 ∧ n = 0) ∧ (∀ ad,a = some ad → ∃ g,ad = ⟨g,0,none⟩):=by
  rintro a c rfl
  rcases own_slice' hO with ⟨h1,h2,-⟩ | ⟨g,cap,h1,-,-,h2,-⟩
  ·cases h1;exact ⟨by omega,(fun _ => ⟨rfl,rfl⟩),(fun ad h => by cases h)⟩
  ·cases h1;exact ⟨by omega,(fun h => by cases h),(fun ad h => by cases h;exact ⟨g,rfl⟩)⟩
 obtain ⟨a,c,rfl⟩:=(own_sl hO).len;obtain ⟨hc,hnil,hso⟩:=key a c rfl;clear hO hvb key;go_enter Tryz.func58,Tryz.ntmps58
 cases a with
 | none =>
  obtain ⟨rfl,rfl⟩:=hnil rfl
  go_wp2_with (at_builtin;refine wpList_append_src (by rfl) _ _ 25 (by rfl) B 49 i0 _ 6 56 Tryz.underlying25 hinf hz0 hz1 hz2 rfl (by decide) _ 0 cs (by rfl) HO.out _ 1 xs (by rfl) hx (src_new hvb'.out _) hx1 (by unfold maxLen;omega) (by omega) hB ?_;intro v5 w5 hown hgrow;replace hown:=hid hown;replace hgrow:=hid hgrow)
  go_ret;exact ⟨_,rfl,hown.out,(Below.refl B w).grown hgrow.out hB (fun j e => (hlo.out j e).1)⟩
 | some ad =>
  obtain ⟨g,rfl⟩:=hso ad rfl
  by_cases hcn:c = n
  ·subst hcn
   go_wp2_with (at_builtin;refine wpList_append_src (by rfl) _ _ 25 (by rfl) B 49 i0 _ 6 56 Tryz.underlying25 hinf hz0 hz1 hz2 rfl (by decide) _ c cs (by rfl) HO.out _ 1 xs (by rfl) hx (src_new hvb'.out _) hx1 (by unfold maxLen;omega) (by omega) hB ?_;intro v5 w5 hown hgrow;replace hown:=hid hown;replace hgrow:=hid hgrow)
   go_ret;exact ⟨_,rfl,hown.out,(Below.refl B w).grown hgrow.out hB (fun j e => (hlo.out j e).1)⟩
  ·go_wp2_with (at_builtin;refine wpList_append_src (by rfl) _ _ 25 (by rfl) B 49 i0 _ 6 56 Tryz.underlying25 hinf hz0 hz1 hz2 rfl (by decide) _ n cs (by rfl) HO.out _ 1 xs (by rfl) hx (src_new hvb'.out _) hx1 (by unfold maxLen;omega) (by omega) hB ?_;intro v5 w5 hown hgrow;replace hown:=hid hown;replace hgrow:=hid hgrow)
   go_ret;exact ⟨_,rfl,hown.out,(Below.refl B w).grown hgrow.out hB (fun j e => (hlo.out j e).1)⟩
theorem insertMov_any (v:Value) (n i:Nat) (cs xs:List Value) (B vb vc:Nat) (w:World) (hO:w.ownsRow B 49 6 v n cs) (hB:B ≤ w.heap.size) (hi:i ≤ n) (hn:n ≤ 5000) (hx:xs.length = 6) (hx1:∀ u ∈ xs,u.oneCell' = true) (hc1:∀ u ∈ cs,u.oneCell' = true)
  (hvb:w.heap[vb]? = some (.cells xs.toArray 49 (0,0))) (hne:∀ g c,v = .slice (some ⟨g,0,none⟩) n c → g ≠ vb) :
  Calls Tryz.prog 58 #[v,.int .i64 (i:Nat),.slice (some ⟨vb,0,none⟩) 1 vc] w fun e w' => ∃ v',e = .returned v' ∧ w'.ownsRow B 49 6 v' (n + 1) (cs.take (i * 6) ++ xs ++ cs.drop (i * 6)) ∧ Below B w w':=by
 by_cases hin:i = n
 ·subst hin
  rw [List.take_of_length_le (by rw [hO.1];omega),List.drop_eq_nil_of_le (by rw [hO.1];omega),List.append_nil];exact insertMov_end v i cs xs B vb vc w hO hB hn hx hx1 hvb
 ·rcases hO.2 with ⟨-,h0⟩ | ⟨g,c,cur,rfl,hg,hh,hnc,hm,hs,ht⟩
  ·omega
  ·by_cases hroom:n + 1 ≤ c
   ·exact insertMov_room g c n i cur.toList cs xs B vb vc w hg (by rw [Array.toArray_toList];exact hh) (by rw [Array.length_toList];exact hs) hm ht hroom (by omega) hn hx hx1 hc1 hvb (hne g c rfl)
   ·refine insertMov_grow g c n i cs xs B vb vc w hB (fun j u hj => ?_) hO.1 hnc (by omega) (by omega) hn hx hx1 hc1 hvb
    rw [← ht,List.getElem?_take] at hj
    split at hj
    ·exact block_cells hh _ _ hj
    ·cases hj
theorem cloneMov_any (v:Value) (n:Nat) (cs:List Value) (w:World) (hS:Sl w v n cs) (hcl:cs.length = n * 6) (hn:n ≤ 5000) (hc1:∀ u ∈ cs,u.oneCell' = true) :
  Calls Tryz.prog 54 #[v] w fun e w' => ∃ v',e = .returned v' ∧ w'.ownsRow w.heap.size 49 6 v' n cs ∧ Below w.heap.size w w':=by
 obtain ⟨i0,hinf,hz0,hz1,hz2⟩:=info_parts infoMov
 have hsrc:=fun (x:Obj) => sl_src (hS.below ((Below.refl w.heap.size w).alloc (Nat.le_refl _) x)) (fun h => List.eq_nil_of_length_eq_zero (by rw [hcl,h]))
 have hown0:Hid ((w.alloc (.cells #[] 49)).ownsRow w.heap.size 49 6 (.slice (some ⟨w.heap.size,0,none⟩) 0 0) 0 []):=hid ⟨by simp,.inr ⟨w.heap.size,0,#[],rfl,Nat.le_refl _,alloc_new w _,Nat.le_refl _,by unfold maxLen;omega,by simp,by simp⟩⟩;replace hsrc:=hid hsrc
 have q22:∀ (w:World) (a:Option Addr) (n c n' c':Nat),(binOp .eql 25 (.slice a n c) (.slice none n' c')).run Tryz.prog w = .ok (.bool a.isNone) w:=fun w a n c n' c' => Lib.run_eql_slice_nil w _ _ a n c n' c' Tryz.underlying25
 obtain ⟨a,c,rfl,h1,h2,h3⟩:=hS;clear h3;go_enter Tryz.func54,Tryz.ntmps54
 cases a with
 | none =>
  obtain rfl:=h2 rfl
  obtain rfl:n = 0:=by omega
  obtain rfl:cs = []:=List.eq_nil_of_length_eq_zero (by omega);go_wp2_with fail;go_ret;exact ⟨_,rfl,World.ownsRow_nil _ _ _ _,Below.refl _ _⟩
 | some ad =>
  go_wp2_with (at_builtin;refine wpList_append_src (by rfl) _ _ 25 (by rfl) w.heap.size 49 i0 _ 6 56 Tryz.underlying25 hinf hz0 hz1 hz2 rfl (by decide) _ 0 [] (by rfl) hown0.out _ n cs (by rfl) hcl (hsrc.out _) hc1 (by unfold maxLen;omega) (by omega) (by simp) ?_;intro v5 w5 hown hgrow;replace hown:=hid hown;replace hgrow:=hid hgrow)
  go_ret;refine ⟨_,rfl,?_,(((Below.refl w.heap.size w).alloc (Nat.le_refl _) (.cells #[] 49))).grown hgrow.out (by simp) (fun j e => by cases e;exact Nat.le_refl _)⟩
  have:=hown.out
  rwa [Nat.zero_add,List.nil_append] at this
theorem insertMk_room (g c n i:Nat) (cur cs xs:List Value) (B vb vc:Nat) (w:World) (hB:B ≤ g) (hh:w.heap[g]? = some (.cells cur.toArray 112 (0,0))) (hlen:cur.length = c * 2) (hm:c ≤ maxLen) (hcur:cur.take (n * 2) = cs)
  (hroom:n + 1 ≤ c) (hi:i < n) (hn:n ≤ 5000) (hx:xs.length = 2) (hx1:∀ u ∈ xs,u.oneCell' = true) (hc1:∀ u ∈ cs,u.oneCell' = true)
  (hvb:w.heap[vb]? = some (.cells xs.toArray 112 (0,0))) (hne:g ≠ vb) :
  Calls Tryz.prog 89 #[.slice (some ⟨g,0,none⟩) n c,.int .i64 (i:Nat),.slice (some ⟨vb,0,none⟩) 1 vc] w fun e w' => ∃ v',e = .returned v' ∧ w'.ownsRow B 112 2 v' (n + 1) (cs.take (i * 2) ++ xs ++ cs.drop (i * 2)) ∧ Below B w w':=by
 obtain ⟨i0,hinf,hz0,hz1,hz2⟩:=info_parts infoMk
 have hsz:(Tryz.prog.info? 112).map (·.size) = some 2:=by rw [hinf];simp [hz1]
 have hsz':∀ w,(sizeOf 112).run Tryz.prog w = .ok 2 w:=Tryz.sizeOf112
 have hov:∀ ob lb cb,(callFunc 128 #[.slice (some ⟨vb,0,none⟩) 1 vc,.slice (some ⟨g,ob,none⟩) lb cb]).run Tryz.prog w = .ok (.value (.bool false)) w:=fun ob lb cb => by
  rw [run_callFunc_extern (Tryz.func128) (by kernel_rfl) (by kernel_rfl) (by kernel_rfl) (e:=Extern.SlicesOverlaps.overlaps #[32,32] #[4]) (by kernel_rfl)];rw [Lib.run_overlaps_apart w 32 4 112 Tryz.underlying32 2 hsz' ⟨vb,0,none⟩ ⟨g,ob,none⟩ 1 vc lb cb (fun e => hne e.symm) 112 112 2 (c * 2) (by simp [World.shape?,hvb,hx]) (by simp [World.shape?,hh,hlen]) (by omega) (free_at hvb 0) (free_at hvb _)]
  rfl
 have hcl:cs.length = n * 2:=by rw [← hcur,List.length_take];omega
 have hdl:(cs.drop (i * 2)).length = (n - i) * 2:=by rw [List.length_drop,hcl];omega
 have r1:¬ ((i:Int) = (n:Int)):=by omega
 have r2:decide ((c:Int) < (n:Int) + 1) = false:=decide_eq_false (by omega)
 have r3:IntKind.i64.wrap ((n:Int) + 1) = (n:Int) + 1:=by rw [IntKind.wrap_i64];omega
 have r4:IntKind.i64.wrap ((i:Int) + 1) = (i:Int) + 1:=by rw [IntKind.wrap_i64];omega
 have b1:(0:Int) ≤ (i:Int):=by omega
 have b2:(i:Int) ≤ (n:Int):=by omega
 have b3:(n:Int) ≤ (c:Int):=by omega
 have b4:(0:Int) ≤ (n:Int) + 1:=by omega
 have b5:(n:Int) + 1 ≤ (c:Int):=by omega
 have b6:(i:Int) + 1 ≤ (n:Int) + 1:=by omega
 have b7:(0:Int) ≤ (i:Int) + 1:=by omega
 have b8:((n:Int) + 1).toNat = n + 1:=by omega
 have b9:((i:Int) + 1).toNat = i + 1:=by omega
 have b10:¬ c = i:=by omega
 have b11:¬ c = i + 1:=by omega
 have b12:(i:Int) ≤ (n:Int) + 1:=by omega
 have hk:=shifted (k:=2) hcur (i:=i * 2) (by omega) hx (by omega);rw [show i * 2 + 2 = (i + 1) * 2 by omega,show n * 2 + 2 = (n + 1) * 2 by omega] at hk;replace hk:=hid hk;have hsl:=splice_len (l:=cur) (m:=cs.drop (i * 2)) (o:=(i + 1) * 2) (by omega);have hsl2:=splice_len (l:=splice cur ((i + 1) * 2) (cs.drop (i * 2))) (m:=xs) (o:=i * 2) (by omega)
 have hfit1:(i + 1) * 2 + (cs.drop (i * 2)).length ≤ cur.length:=by rw [hdl];omega
 have hfit2:i * 2 + xs.length ≤ (splice cur ((i + 1) * 2) (cs.drop (i * 2))).length:=by rw [hsl,hx];omega
 have hil:Hid ((cs.take (i * 2) ++ xs ++ cs.drop (i * 2)).length = (n + 1) * 2):=hid (by rw [List.length_append,List.length_append,List.length_take,hdl,hcl,hx];omega);have hlen':=hid hlen;have hh':=hid hh;have hvb':=hid hvb
 have hcd:Hid (∀ (j:Nat) (v:Value),(cs.drop (i * 2))[j]? = some v → w.cell? ⟨g,i * 2 + j,none⟩ = some v):=hid (fun j v hj => by
  rw [List.getElem?_drop,← hcur,List.getElem?_take] at hj
  split at hj
  ·exact block_cells (cs:=cur.toArray) hh _ _ (by simpa using hj)
  ·cases hj)
 have hcd1:∀ u ∈ cs.drop (i * 2),u.oneCell' = true:=fun u hu => hc1 u (List.mem_of_mem_drop hu)
 have hvl:=lt_of_block hvb;clear hcur hh hvb hc1 hlen;go_enter Tryz.func89,Tryz.ntmps89
 go_wp2_with (simp only [hov])
 go_region_held3 (fun W:World => Below 0 W W) (exact Below.refl _ _) ((refine step_copy_spliceK (by rfl) (.tmp 73) (.tmp 76) 32 32 (by rfl) 112 2 Tryz.underlying32 hsz _ _ _ _ _ _ (by rfl) (by rfl) g ((i + 1) * 2) cur 112 hh'.out (cs.drop (i * 2)) (n - i) (by show min _ _ = _;omega) (by rw [hdl]) (fun _ => ⟨rfl,⟨g,i * 2,none⟩,rfl,fun j v hj => ?_⟩) hfit1 hcd1 ?_;(rw [Addr.add_lit];exact hcd.out j v hj);intro w3 hg3 hB3 hO3))
 all_goals
  have hvb3:=hid ((hO3.out vb (fun e => hne e.symm)).trans hvb'.out)
  go_wp2_with (refine wpList_copy_spliceK (by rfl) _ _ 32 32 (by rfl) 112 2 Tryz.underlying32 hsz _ _ _ _ _ _ (by rfl) (by rfl) g (i * 2) (splice cur ((i + 1) * 2) (cs.drop (i * 2))) 112 hg3.out xs 1 (by show min _ _ = _;omega) hx (fun _ => ⟨rfl,⟨vb,0,none⟩,rfl,fun j v hj => ?_⟩) hfit2 hx1 ?_;(rw [Addr.add_lit,Nat.zero_add];exact block_cells hvb3.out j v hj);intro w4 hg4 hB4 hO4)
  go_ret;exact ⟨_,rfl,⟨hil.out,.inr ⟨g,c,_,rfl,hB,hg4.out,by omega,hm,by simp only [List.size_toArray];rw [hsl2,hsl,hlen'.out],by rw [List.toList_toArray];exact hk.out⟩⟩,hB4.out _ _ (hB3.out _ _ (Below.refl _ _).drew hB) hB⟩
theorem insertMk_grow (g c n i:Nat) (cs xs:List Value) (B vb vc:Nat) (w:World) (hB:B ≤ w.heap.size) (hcs:∀ (j:Nat) (v:Value),cs[j]? = some v → w.cell? ⟨g,j,none⟩ = some v) (hcl:cs.length = n * 2) (hnc:n ≤ c)
  (hroom:c < n + 1) (hi:i < n) (hn:n ≤ 5000) (hx:xs.length = 2) (hx1:∀ u ∈ xs,u.oneCell' = true) (hc1:∀ u ∈ cs,u.oneCell' = true)
  (hvb:w.heap[vb]? = some (.cells xs.toArray 112 (0,0))) :
  Calls Tryz.prog 89 #[.slice (some ⟨g,0,none⟩) n c,.int .i64 (i:Nat),.slice (some ⟨vb,0,none⟩) 1 vc] w fun e w' => ∃ v',e = .returned v' ∧ w'.ownsRow B 112 2 v' (n + 1) (cs.take (i * 2) ++ xs ++ cs.drop (i * 2)) ∧ Below B w w':=by
 obtain ⟨i0,hinf,hz0,hz1,hz2⟩:=info_parts infoMk
 have hsz:(Tryz.prog.info? 112).map (·.size) = some 2:=by rw [hinf];simp [hz1]
 obtain ⟨G,hG⟩:∃ G,G = grownCap w (n + 1) c 112:=⟨_,rfl⟩
 have hGn:n + 1 ≤ G:=by rw [hG];exact grownCap_ge w _ _ _
 have hGm:G ≤ maxLen:=by rw [hG];exact grownCap_le_maxLen w (n + 1) c _ (by unfold maxLen;omega)
 have hdl:(cs.drop (i * 2)).length = (n - i) * 2:=by rw [List.length_drop,hcl];omega
 have htl:(cs.take (i * 2)).length = i * 2:=by rw [List.length_take,hcl];omega
 have hgw:g < w.heap.size:=World.block_lt_of_cell? _ _ (hcs 0 _ (List.getElem?_eq_getElem (by omega)));have hvl:=lt_of_block hvb
 have hkk:(n:Int) + 1 - (i:Int) = ((n + 1 - i:Nat):Int):=by omega
 have hik:i + (n + 1 - i) = n + 1:=by omega
 have hold:(Builtin.firstCells i0.size i (.slice (some ⟨g,0,none⟩) i c)).run Tryz.prog w.drew = .ok (cs.take (i * 2)).toArray w.drew:=by
  rw [hz1];refine run_firstCells_some w.drew 2 i ⟨g,0,none⟩ i c (cs.take (i * 2)) htl (fun j v hj => ?_)
  rw [Addr.add_lit,Nat.zero_add];rw [List.getElem?_take] at hj
  split at hj
  ·exact hcs j v hj
  ·cases hj
 obtain ⟨Z,hZ,hZl⟩:∃ Z:List Value,(cs.take (i * 2)).toArray ++ Builtin.zeroCells (.agg #[.int .i64 0,.int .i64 0]:Value).cells (n + 1 - i) ++ Builtin.zeroCells (.agg #[.int .i64 0,.int .i64 0]:Value).cells (G - (n + 1)) = (cs.take (i * 2) ++ Z).toArray ∧ Z.length = (G - i) * 2:=
  ⟨(Builtin.zeroCells (.agg #[.int .i64 0,.int .i64 0]:Value).cells (n + 1 - i)).toList ++ (Builtin.zeroCells (.agg #[.int .i64 0,.int .i64 0]:Value).cells (G - (n + 1))).toList,by simp,by
   rw [List.length_append,Array.length_toList,Array.length_toList,size_zeroCells,size_zeroCells,show (.agg #[.int .i64 0,.int .i64 0]:Value).cells.size = 2 from rfl];omega⟩
 have hrz:∀ ty,(Builtin.append_ #[32,3] ty #[.slice (some ⟨g,0,none⟩) i c,.int .i64 ((n:Int) + 1 - (i:Int))]).run Tryz.prog w =
   .ok (.slice (some ⟨w.heap.size,0,none⟩) (n + 1) G) (w.drew.alloc (.cells (cs.take (i * 2) ++ Z).toArray 112)):=fun ty => by
  have h:=Lib.run_append_grow_zeros w 32 3 ty 112 i0 _ .i64 .i64 Tryz.underlying32 Tryz.underlying3 hinf hz0 (some ⟨g,0,none⟩) i c (cs.take (i * 2)) hold (n + 1 - i) (by omega) (by omega) (by omega) (by omega) (by rw [hz2];omega) (by rw [hz2,hik];exact growslice_fits hroom (by omega));rw [hik,← hG,hZ] at h;rw [hkk];exact h
 have hne2:g ≠ w.heap.size:=by omega
 have hk:=laid (k:=2) (Z:=Z) hcl (i:=i * 2) (by omega) hx (by omega);rw [show i * 2 + 2 = (i + 1) * 2 by omega,show n * 2 + 2 = (n + 1) * 2 by omega] at hk;replace hk:=hid hk
 have hal:(cs.take (i * 2) ++ Z).length = G * 2:=by rw [List.length_append,htl,hZl];omega
 have hsl:=splice_len (l:=cs.take (i * 2) ++ Z) (m:=xs) (o:=i * 2) (by rw [hal,hx];omega)
 have hfit1:i * 2 + xs.length ≤ (cs.take (i * 2) ++ Z).length:=by rw [hal,hx];omega
 have hfit2:(i + 1) * 2 + (cs.drop (i * 2)).length ≤ (splice (cs.take (i * 2) ++ Z) (i * 2) xs).length:=by rw [hsl,hal,hdl];omega
 have hsl2:=splice_len (l:=splice (cs.take (i * 2) ++ Z) (i * 2) xs) (m:=cs.drop (i * 2)) (o:=(i + 1) * 2) hfit2;have hil:Hid ((cs.take (i * 2) ++ xs ++ cs.drop (i * 2)).length = (n + 1) * 2):=hid (by rw [List.length_append,List.length_append,htl,hdl,hx];omega);have hlen':=hid ((hsl2.trans hsl).trans hal)
 have hcd1:∀ u ∈ cs.drop (i * 2),u.oneCell' = true:=fun u hu => hc1 u (List.mem_of_mem_drop hu)
 have hcd:Hid (∀ (j:Nat) (v:Value),(cs.drop (i * 2))[j]? = some v → w.cell? ⟨g,i * 2 + j,none⟩ = some v):=hid (fun j v hj => hcs _ _ (by rwa [List.getElem?_drop] at hj));obtain ⟨W1,hW1⟩:∃ W1,W1 = w.drew.alloc (.cells (cs.take (i * 2) ++ Z).toArray 112):=⟨_,rfl⟩;rw [← hW1] at hrz;have hg1:Hid (W1.heap[w.heap.size]? = some (.cells (cs.take (i * 2) ++ Z).toArray 112 (0,0))):=hid (by rw [hW1];exact alloc_new w.drew _);have hv1:Hid (W1.heap[vb]? = some (.cells xs.toArray 112 (0,0))):=hid (by rw [hW1];exact alloc_at _ hvb)
 have hcd2:Hid (∀ (j:Nat) (v:Value),(cs.drop (i * 2))[j]? = some v → W1.cell? ⟨g,i * 2 + j,none⟩ = some v):=hid (fun j v hj => by rw [hW1];exact (((Below.refl w.heap.size w).drew.alloc (Nat.le_refl _) _).cell (p:=⟨g,i * 2 + j,none⟩) hgw).trans (hcd.out j v hj));have hb1:Hid (Below B w W1):=hid (by rw [hW1];exact (Below.refl B w).drew.alloc hB _)
 have hvne:vb ≠ w.heap.size:=by omega
 have r1:¬ ((i:Int) = (n:Int)):=by omega
 have r2:decide ((c:Int) < (n:Int) + 1) = true:=decide_eq_true (by omega)
 have r2':(c:Int) < (n:Int) + 1:=by omega
 have r3:IntKind.i64.wrap ((n:Int) + 1) = (n:Int) + 1:=by rw [IntKind.wrap_i64];omega
 have r4:IntKind.i64.wrap ((i:Int) + 1) = (i:Int) + 1:=by rw [IntKind.wrap_i64];omega
 have r5:IntKind.i64.wrap ((n:Int) + 1 - (i:Int)) = (n:Int) + 1 - (i:Int):=by rw [IntKind.wrap_i64];omega
 have b1:(0:Int) ≤ (i:Int):=by omega
 have b2:(i:Int) ≤ (n:Int):=by omega
 have b3:(n:Int) ≤ (c:Int):=by omega
 have b13:(i:Int) ≤ (c:Int):=by omega
 have b4:(0:Int) ≤ (n:Int) + 1:=by omega
 have b6:(i:Int) + 1 ≤ (n:Int) + 1:=by omega
 have b7:(0:Int) ≤ (i:Int) + 1:=by omega
 have b8:((n:Int) + 1).toNat = n + 1:=by omega
 have b9:((i:Int) + 1).toNat = i + 1:=by omega
 have b10:¬ c = i:=by omega
 have b11:¬ G = i:=by omega
 have b14:¬ G = i + 1:=by omega
 have b12:(i:Int) ≤ (n:Int) + 1:=by omega
 have b15:(n:Int) + 1 ≤ (G:Int):=by omega
 clear hW1 hold hik hkk hG hZ hZl hcs hcl hvb hsl hsl2 hal htl;generalize cs.take (i * 2) ++ Z = row at *;go_enter Tryz.func89,Tryz.ntmps89
 go_wp2_with (first | (at_builtin;refine Lib.wpList_append_run _ rfl _ _ _ _ rfl _ _ rfl rfl _ _ (hrz _) ?_) | (refine wpList_copy_spliceK (by rfl) _ _ 32 32 (by rfl) 112 2 Tryz.underlying32 hsz _ _ _ _ _ _ (by rfl) (by rfl) w.heap.size (i * 2) row 112 hg1.out xs 1 (by show min _ _ = _;omega) hx (fun _ => ⟨rfl,⟨vb,0,none⟩,rfl,fun j v hj => ?_⟩) hfit1 hx1 ?_;(rw [Addr.add_lit,Nat.zero_add];exact block_cells hv1.out j v hj);intro w3 hg3 hB3 hO3))
 have hcd3:Hid (∀ (j:Nat) (v:Value),(cs.drop (i * 2))[j]? = some v → w3.cell? ⟨g,i * 2 + j,none⟩ = some v):=hid (fun j v hj => (World.cell?_of_block (a:=⟨g,i * 2 + j,none⟩) (hO3.out g hne2)).trans (hcd2.out j v hj))
 go_region_held3 (fun W:World => Below 0 W W) (exact Below.refl _ _) ((refine step_copy_spliceK (by rfl) (.tmp 50) (.tmp 53) 32 32 (by rfl) 112 2 Tryz.underlying32 hsz _ _ _ _ _ _ (by rfl) (by rfl) w.heap.size ((i + 1) * 2) (splice row (i * 2) xs) 112 hg3.out (cs.drop (i * 2)) (n - i) (by show min _ _ = _;omega) (by rw [hdl]) (fun _ => ⟨rfl,⟨g,i * 2,none⟩,rfl,fun j v hj => ?_⟩) hfit2 hcd1 ?_;(rw [Addr.add_lit];exact hcd3.out j v hj);intro w4 hg4 hB4 hO4))
 all_goals
  go_wp2_with fail;go_ret;exact ⟨_,rfl,⟨hil.out,.inr ⟨w.heap.size,G,_,rfl,hB,hg4.out,hGn,hGm,by simp only [List.size_toArray];exact hlen'.out,by rw [List.toList_toArray];exact hk.out⟩⟩,hB4.out _ _ (hB3.out _ _ hb1.out hB).drew hB⟩
theorem insertMk_end (v:Value) (n:Nat) (cs xs:List Value) (B vb vc:Nat) (w:World) (hO:w.ownsRow B 112 2 v n cs) (hB:B ≤ w.heap.size) (hn:n ≤ 5000) (hx:xs.length = 2) (hx1:∀ u ∈ xs,u.oneCell' = true)
  (hvb:w.heap[vb]? = some (.cells xs.toArray 112 (0,0))) :
  Calls Tryz.prog 89 #[v,.int .i64 (n:Nat),.slice (some ⟨vb,0,none⟩) 1 vc] w fun e w' => ∃ v',e = .returned v' ∧ w'.ownsRow B 112 2 v' (n + 1) (cs ++ xs) ∧ Below B w w':=by
 obtain ⟨i0,hinf,hz0,hz1,hz2⟩:=info_parts infoMk;have HO:=hid hO;have hlo:=hid hO.lt
 have b1:(0:Int) ≤ (n:Int):=by omega
 have hvb':=hid hvb
 have key:∀ a c,v = .slice a n c → (n:Int) ≤ (c:Int) ∧ (a = none → c = 0 ∧ n = 0) ∧ (∀ ad,a = some ad → ∃ g,ad = ⟨g,0,none⟩):=by
  rintro a c rfl
  rcases own_slice' hO with ⟨h1,h2,-⟩ | ⟨g,cap,h1,-,-,h2,-⟩
  ·cases h1;exact ⟨by omega,(fun _ => ⟨rfl,rfl⟩),(fun ad h => by cases h)⟩
  ·cases h1;exact ⟨by omega,(fun h => by cases h),(fun ad h => by cases h;exact ⟨g,rfl⟩)⟩
 obtain ⟨a,c,rfl⟩:=(own_sl hO).len;obtain ⟨hc,hnil,hso⟩:=key a c rfl;clear hO hvb key;go_enter Tryz.func89,Tryz.ntmps89
 cases a with
 | none =>
  obtain ⟨rfl,rfl⟩:=hnil rfl
  go_wp2_with (at_builtin;refine wpList_append_src (by rfl) _ _ 32 (by rfl) B 112 i0 _ 2 16 Tryz.underlying32 hinf hz0 hz1 hz2 rfl (by decide) _ 0 cs (by rfl) HO.out _ 1 xs (by rfl) hx (src_new hvb'.out _) hx1 (by unfold maxLen;omega) (by omega) hB ?_;intro v5 w5 hown hgrow;replace hown:=hid hown;replace hgrow:=hid hgrow)
  go_ret;exact ⟨_,rfl,hown.out,(Below.refl B w).grown hgrow.out hB (fun j e => (hlo.out j e).1)⟩
 | some ad =>
  obtain ⟨g,rfl⟩:=hso ad rfl
  by_cases hcn:c = n
  ·subst hcn
   go_wp2_with (at_builtin;refine wpList_append_src (by rfl) _ _ 32 (by rfl) B 112 i0 _ 2 16 Tryz.underlying32 hinf hz0 hz1 hz2 rfl (by decide) _ c cs (by rfl) HO.out _ 1 xs (by rfl) hx (src_new hvb'.out _) hx1 (by unfold maxLen;omega) (by omega) hB ?_;intro v5 w5 hown hgrow;replace hown:=hid hown;replace hgrow:=hid hgrow)
   go_ret;exact ⟨_,rfl,hown.out,(Below.refl B w).grown hgrow.out hB (fun j e => (hlo.out j e).1)⟩
  ·go_wp2_with (at_builtin;refine wpList_append_src (by rfl) _ _ 32 (by rfl) B 112 i0 _ 2 16 Tryz.underlying32 hinf hz0 hz1 hz2 rfl (by decide) _ n cs (by rfl) HO.out _ 1 xs (by rfl) hx (src_new hvb'.out _) hx1 (by unfold maxLen;omega) (by omega) hB ?_;intro v5 w5 hown hgrow;replace hown:=hid hown;replace hgrow:=hid hgrow)
   go_ret;exact ⟨_,rfl,hown.out,(Below.refl B w).grown hgrow.out hB (fun j e => (hlo.out j e).1)⟩
theorem insertMk_any (v:Value) (n i:Nat) (cs xs:List Value) (B vb vc:Nat) (w:World) (hO:w.ownsRow B 112 2 v n cs) (hB:B ≤ w.heap.size) (hi:i ≤ n) (hn:n ≤ 5000) (hx:xs.length = 2) (hx1:∀ u ∈ xs,u.oneCell' = true) (hc1:∀ u ∈ cs,u.oneCell' = true)
  (hvb:w.heap[vb]? = some (.cells xs.toArray 112 (0,0))) (hne:∀ g c,v = .slice (some ⟨g,0,none⟩) n c → g ≠ vb) :
  Calls Tryz.prog 89 #[v,.int .i64 (i:Nat),.slice (some ⟨vb,0,none⟩) 1 vc] w fun e w' => ∃ v',e = .returned v' ∧ w'.ownsRow B 112 2 v' (n + 1) (cs.take (i * 2) ++ xs ++ cs.drop (i * 2)) ∧ Below B w w':=by
 by_cases hin:i = n
 ·subst hin
  rw [List.take_of_length_le (by rw [hO.1];omega),List.drop_eq_nil_of_le (by rw [hO.1];omega),List.append_nil];exact insertMk_end v i cs xs B vb vc w hO hB hn hx hx1 hvb
 ·rcases hO.2 with ⟨-,h0⟩ | ⟨g,c,cur,rfl,hg,hh,hnc,hm,hs,ht⟩
  ·omega
  ·by_cases hroom:n + 1 ≤ c
   ·exact insertMk_room g c n i cur.toList cs xs B vb vc w hg (by rw [Array.toArray_toList];exact hh) (by rw [Array.length_toList];exact hs) hm ht hroom (by omega) hn hx hx1 hc1 hvb (hne g c rfl)
   ·refine insertMk_grow g c n i cs xs B vb vc w hB (fun j u hj => ?_) hO.1 hnc (by omega) (by omega) hn hx hx1 hc1 hvb
    rw [← ht,List.getElem?_take] at hj
    split at hj
    ·exact block_cells hh _ _ hj
    ·cases hj
theorem cloneMk_any (v:Value) (n:Nat) (cs:List Value) (w:World) (hS:Sl w v n cs) (hcl:cs.length = n * 2) (hn:n ≤ 5000) (hc1:∀ u ∈ cs,u.oneCell' = true) :
  Calls Tryz.prog 84 #[v] w fun e w' => ∃ v',e = .returned v' ∧ w'.ownsRow w.heap.size 112 2 v' n cs ∧ Below w.heap.size w w':=by
 obtain ⟨i0,hinf,hz0,hz1,hz2⟩:=info_parts infoMk
 have hsrc:=fun (x:Obj) => sl_src (hS.below ((Below.refl w.heap.size w).alloc (Nat.le_refl _) x)) (fun h => List.eq_nil_of_length_eq_zero (by rw [hcl,h]))
 have hown0:Hid ((w.alloc (.cells #[] 112)).ownsRow w.heap.size 112 2 (.slice (some ⟨w.heap.size,0,none⟩) 0 0) 0 []):=hid ⟨by simp,.inr ⟨w.heap.size,0,#[],rfl,Nat.le_refl _,alloc_new w _,Nat.le_refl _,by unfold maxLen;omega,by simp,by simp⟩⟩;replace hsrc:=hid hsrc
 have q22:∀ (w:World) (a:Option Addr) (n c n' c':Nat),(binOp .eql 32 (.slice a n c) (.slice none n' c')).run Tryz.prog w = .ok (.bool a.isNone) w:=fun w a n c n' c' => Lib.run_eql_slice_nil w _ _ a n c n' c' Tryz.underlying32
 obtain ⟨a,c,rfl,h1,h2,h3⟩:=hS;clear h3;go_enter Tryz.func84,Tryz.ntmps84
 cases a with
 | none =>
  obtain rfl:=h2 rfl
  obtain rfl:n = 0:=by omega
  obtain rfl:cs = []:=List.eq_nil_of_length_eq_zero (by omega);go_wp2_with fail;go_ret;exact ⟨_,rfl,World.ownsRow_nil _ _ _ _,Below.refl _ _⟩
 | some ad =>
  go_wp2_with (at_builtin;refine wpList_append_src (by rfl) _ _ 32 (by rfl) w.heap.size 112 i0 _ 2 16 Tryz.underlying32 hinf hz0 hz1 hz2 rfl (by decide) _ 0 [] (by rfl) hown0.out _ n cs (by rfl) hcl (hsrc.out _) hc1 (by unfold maxLen;omega) (by omega) (by simp) ?_;intro v5 w5 hown hgrow;replace hown:=hid hown;replace hgrow:=hid hgrow)
  go_ret;refine ⟨_,rfl,?_,(((Below.refl w.heap.size w).alloc (Nat.le_refl _) (.cells #[] 112))).grown hgrow.out (by simp) (fun j e => by cases e;exact Nat.le_refl _)⟩
  have:=hown.out
  rwa [Nat.zero_add,List.nil_append] at this
end Mem
end
section
open Go.RowKit
namespace Mem
theorem run_storeAt_row {P:Program} (w:World) (g o:Nat) (ty t:TypeId) (cur cs:List Value) (hg:w.heap[g]? = some (.cells cur.toArray t (0,0))) (hi:(P.info? ty).map (·.size) = some cs.length) (hfit:o + cs.length ≤ cur.length) (h1:∀ v ∈ cs,v.oneCell' = true) :
  (Instr.storeAt ty (.pointer (some ⟨g,o,none⟩)) (.agg cs.toArray)).run P w = .ok () (w.setRow g (splice cur o cs).toArray):=by
 have hst:=run_storeCells_at P g o t cs 0 cur.toArray w hg (by simpa using hfit) h1
 cases hq:P.info? ty with
 | none => simp [hq] at hi
 | some i =>
  have hs:i.size = cs.length:=by simpa [hq] using hi
  simp [Instr.storeAt,Instr.sureAddr,storeVar,sizeOf,typeInfo,hq,Value.cells,hs]
  simpa [splice] using hst
theorem wpList_store_splice {P:Program} {ops:Array Oper} {rest:List Oper} {op:Oper} {a:Act} {w:World} {Q:Exit → Act → World → Prop} (hgd:op.guard = none) (ty:TypeId) (x y:Operand) (ho:op.op = .store ty x y)
  (g o:Nat) (cs:List Value) (hx:a.eval x = .pointer (some ⟨g,o,none⟩)) (hy:a.eval y = .agg cs.toArray) (t:TypeId) (cur:List Value) (hg:w.heap[g]? = some (.cells cur.toArray t (0,0)))
  (hi:(P.info? ty).map (·.size) = some cs.length) (hfit:o + cs.length ≤ cur.length) (h1:∀ v ∈ cs,v.oneCell' = true)
  (h:∀ w',Hid (w'.heap[g]? = some (.cells (splice cur o cs).toArray t (0,0))) → Hid (∀ B (w0:World),Below B w0 w → B ≤ g → Below B w0 w') → Hid (∀ k,k ≠ g → w'.heap[k]? = w.heap[k]?) → wpList P ops Q rest (a.put op.dst undef) w') :
  wpList P ops Q (op :: rest) a w:=by
 refine wpList_plain hgd fun K hK => ?_
 have hrun:=run_storeAt_row (P:=P) w g o ty t cur cs hg hi hfit h1;unfold Oper.wp execOp;simp only [ho,hx,hy,Sem.run_bind,hrun,Result.andThen_ok,Sem.run_pure];exact hK _ _ (h _ (hid (by have:=setRow_heap w g _ (splice cur o cs).toArray t _ hg;simpa using this)) (fun B w0 hb hB => below_setRow hb hB _) (fun k hk => setRow_other w g k _ hk))
theorem splice_take {cur cs:List Value} {o n:Nat} (h:o + cs.length ≤ n) (hn:n ≤ cur.length):(splice cur o cs).take n = splice (cur.take n) o cs:=by
 have hl:(cur.take n).length = n:=by rw [List.length_take];omega
 apply List.ext_getElem?
 intro j;rw [List.getElem?_take]
 by_cases hj:j < n
 ·rw [if_pos hj,splice_get (by omega),splice_get (by omega),List.getElem?_take_of_lt hj]
 ·rw [if_neg hj,List.getElem?_eq_none (by rw [splice_len (by omega)];omega)]
theorem flat_splice {α:Type} {f:α → List Value} {k:Nat} (hf:∀ x,(f x).length = k) (l:List α):∀ (i:Nat) (r:α),i < l.length → splice (l.flatMap f) (i * k) (f r) = (l.set i r).flatMap f:=by
 induction l with
 | nil => intro i r h;simp at h
 | cons x l ih =>
  intro i r h
  cases i with
  | zero =>
   unfold splice;rw [Nat.zero_mul,List.take_zero,List.flatMap_cons,List.set_cons_zero,List.flatMap_cons,Nat.zero_add,hf,List.drop_append,List.drop_eq_nil_of_le (by rw [hf];exact Nat.le_refl _),hf,Nat.sub_self,List.drop_zero];simp
  | succ i =>
   have:=ih i r (by simpa using h);rw [List.set_cons_succ,List.flatMap_cons,List.flatMap_cons,← this];unfold splice;rw [Nat.succ_mul,List.take_append,List.drop_append,List.take_of_length_le (by rw [hf];omega),List.drop_eq_nil_of_le (by rw [hf];omega),hf,hf,show i * k + k - k = i * k by omega,show i * k + k + k - k = i * k + k by omega];simp
end Mem
end
section
open Go.RowKit
namespace Mem
open Tp
def idxI {α:Type} (l:List α) (p:α → Bool):Int:=if l.findIdx p < l.length then (l.findIdx p:Int) else -1
theorem idx_take {α:Type} {l:List α} {p:α → Bool} {k:Nat} (hk:k ≤ l.length) (h:∀ x ∈ l.take k,p x = false):k ≤ l.findIdx p:=by
 induction l generalizing k with
 | nil => simp at hk;omega
 | cons y l ih =>
  cases k with
  | zero => omega
  | succ k =>
   have hy:=h y (by simp);rw [List.findIdx_cons,hy];have:=ih (k:=k) (by simpa using hk) (fun x hx => h x (by simp [hx]));simp;omega
theorem idx_hit {α:Type} {l:List α} {p:α → Bool} {k:Nat} {x:α} (hx:l[k]? = some x) (h:∀ x ∈ l.take k,p x = false) (hp:p x = true):l.findIdx p = k:=by
 obtain ⟨hk,rfl⟩:=List.getElem?_eq_some_iff.1 hx;have h1:=idx_take (Nat.le_of_lt hk) h;have h2:l.findIdx p ≤ k:=Nat.le_of_not_lt (fun h9 => by have:=List.not_of_lt_findIdx h9;simp [hp] at this);omega
theorem idx_none {α:Type} {l:List α} {p:α → Bool} (h:∀ x ∈ l,p x = false):l.findIdx p = l.length:=by
 rw [List.findIdx_eq_length];exact h
theorem idxI_any {α:Type} (l:List α) (p:α → Bool):decide (0 ≤ idxI l p) = l.any p:=by
 unfold idxI
 by_cases h:l.findIdx p < l.length
 ·rw [if_pos h,decide_eq_true (by omega)]
  have:=List.findIdx_lt_length.1 h;exact (List.any_eq_true.2 this).symm
 ·rw [if_neg h]
  have h2:l.findIdx p = l.length:=by have:=List.findIdx_le_length (xs:=l) (p:=p);omega
  rw [List.findIdx_eq_length] at h2;have:l.any p = false:=List.any_eq_false.2 (fun x hx => by simp [h2 x hx]);rw [this]
  rfl
theorem indexRow_any (f:Nat) (cap:Array Value) (v:Value) (l:List Rw) (p:Rw → Bool) (w:World) (hS:Rows w v l) (hl:l.length ≤ 5000)
  (E:∀ (x:Rw) w1,(callFunc f (#[rowV x] ++ cap)).run Tryz.prog w1 = .ok (.enter f (#[rowV x] ++ cap)) w1)
  (F:∀ (x:Rw) w1,x ∈ l → Below w.heap.size w w1 → Calls Tryz.prog f (#[rowV x] ++ cap) w1 fun e w' => e = .returned (.bool (p x)) ∧ Below w1.heap.size w1 w') :
  Calls Tryz.prog 167 #[v,.func (.func f) #[] cap] w fun e w' => e = .returned (.int .i64 (idxI l p)) ∧ Below w.heap.size w w':=by
 obtain ⟨a,c,rfl⟩:=hS.len;have HS:=hid hS;have HF:=hid F;have HE:Hid (∀ (x:Rw) w1,(callFunc f (#[rowV x] ++ cap)).run Tryz.prog w1 = .ok (.enter f (#[rowV x] ++ cap)) w1):=hid E;clear hS F E;go_enter Tryz.func167,Tryz.ntmps167;go_wp2_with fail
 go_loopw [8] (fun i wr => ∃ k:Nat,i = .int .i64 k ∧ k ≤ l.length ∧ Hid (∀ x ∈ l.take k,p x = false) ∧ Hid (Below w.heap.size w wr)) (fun i _ => l.length - (intOf i).toNat)
 case atStart => exact ⟨0,rfl,by omega,hid (fun x h => by simp at h),hid (Below.refl _ _)⟩
 case round =>
  obtain ⟨k,rfl,hk,hno,hb⟩:=hrel
  by_cases hlt:k < l.length
  ·have hlt':(k:Int) < (l.length:Nat):=by omega
   obtain ⟨x,hx⟩:=some_at hlt;obtain ⟨b,off,rfl⟩:=HS.out.addr (by omega);have hS2:=HS.out.below hb.out;have hcs:=row_at hS2 rfl hx;obtain ⟨q0,q1,q2,q3⟩:=hcs;have hx':=hid hx;have hm:Hid (x ∈ l):=hid (List.mem_of_getElem? hx);have hF:=hid (fun w1 hb => HF.out x w1 hm.out hb)
   have he:=fun w1 => HE.out x w1
   unfold rowV at he;clear hS2 hx;go_wp2_with fail;refine (hF.out _ hb.out).mono ?_
   rintro e w2 ⟨rfl,hb2⟩;have hb3:=hid (hb.out.trans (hb2.mono hb.out.size));clear hb2
   by_cases hp:p x = true
   ·have hr:Hid (idxI l p = (k:Int)):=hid (by have:=idx_hit hx'.out hno.out hp;unfold idxI;rw [this,if_pos hlt])
    rw [hp];clear hp;go_wp2_with fail;go_ret;exact ⟨by rw [hr.out];rfl,hb3.out⟩
   ·have hp':p x = false:=by simpa using hp
    have hno2:Hid (∀ x ∈ l.take (k + 1),p x = false):=hid (fun y hy => by
     rw [take_snoc hx'.out,List.mem_append,List.mem_singleton] at hy
     rcases hy with hy | rfl
     ·exact hno.out y hy
     ·exact hp')
    rw [hp'];clear hp hp';go_wp2_with fail
    go_roundw
    case rel => exact ⟨k + 1,by go_num,by omega,hno2,hb3⟩
    case measure => simp [intOf];omega
  ·obtain rfl:k = l.length:=by omega
   have hge:¬ ((l.length:Int) < (l.length:Nat)):=by omega
   have hr:Hid (idxI l p = -1):=hid (by
    have h9:=hno.out;rw [List.take_length] at h9;unfold idxI
    rw [idx_none h9,if_neg (by omega)])
   go_wp2_with fail;go_ret;exact ⟨by rw [hr.out];rfl,hb.out⟩
theorem indexMov_any (f:Nat) (cap:Array Value) (v:Value) (l:List Mv) (p:Mv → Bool) (w:World) (hS:Mvs w v l) (hl:l.length ≤ 5000)
  (E:∀ (x:Mv) w1,(callFunc f (#[movV x] ++ cap)).run Tryz.prog w1 = .ok (.enter f (#[movV x] ++ cap)) w1)
  (F:∀ (x:Mv) w1,x ∈ l → Below w.heap.size w w1 → Calls Tryz.prog f (#[movV x] ++ cap) w1 fun e w' => e = .returned (.bool (p x)) ∧ Below w1.heap.size w1 w') :
  Calls Tryz.prog 163 #[v,.func (.func f) #[] cap] w fun e w' => e = .returned (.int .i64 (idxI l p)) ∧ Below w.heap.size w w':=by
 obtain ⟨a,c,rfl⟩:=hS.len;have HS:=hid hS;have HF:=hid F;have HE:Hid (∀ (x:Mv) w1,(callFunc f (#[movV x] ++ cap)).run Tryz.prog w1 = .ok (.enter f (#[movV x] ++ cap)) w1):=hid E;clear hS F E;go_enter Tryz.func163,Tryz.ntmps163;go_wp2_with fail
 go_loopw [8] (fun i wr => ∃ k:Nat,i = .int .i64 k ∧ k ≤ l.length ∧ Hid (∀ x ∈ l.take k,p x = false) ∧ Hid (Below w.heap.size w wr)) (fun i _ => l.length - (intOf i).toNat)
 case atStart => exact ⟨0,rfl,by omega,hid (fun x h => by simp at h),hid (Below.refl _ _)⟩
 case round =>
  obtain ⟨k,rfl,hk,hno,hb⟩:=hrel
  by_cases hlt:k < l.length
  ·have hlt':(k:Int) < (l.length:Nat):=by omega
   obtain ⟨x,hx⟩:=some_at hlt;obtain ⟨b,off,rfl⟩:=HS.out.addr (by omega);have hS2:=HS.out.below hb.out;have hcs:=mov_at hS2 rfl hx;obtain ⟨q0,q1,q2,q3,q4,q5⟩:=hcs;have hx':=hid hx;have hm:Hid (x ∈ l):=hid (List.mem_of_getElem? hx);have hF:=hid (fun w1 hb => HF.out x w1 hm.out hb)
   have he:=fun w1 => HE.out x w1
   unfold movV at he;clear hS2 hx;go_wp2_with fail;refine (hF.out _ hb.out).mono ?_
   rintro e w2 ⟨rfl,hb2⟩;have hb3:=hid (hb.out.trans (hb2.mono hb.out.size));clear hb2
   by_cases hp:p x = true
   ·have hr:Hid (idxI l p = (k:Int)):=hid (by have:=idx_hit hx'.out hno.out hp;unfold idxI;rw [this,if_pos hlt])
    rw [hp];clear hp;go_wp2_with fail;go_ret;exact ⟨by rw [hr.out];rfl,hb3.out⟩
   ·have hp':p x = false:=by simpa using hp
    have hno2:Hid (∀ x ∈ l.take (k + 1),p x = false):=hid (fun y hy => by
     rw [take_snoc hx'.out,List.mem_append,List.mem_singleton] at hy
     rcases hy with hy | rfl
     ·exact hno.out y hy
     ·exact hp')
    rw [hp'];clear hp hp';go_wp2_with fail
    go_roundw
    case rel => exact ⟨k + 1,by go_num,by omega,hno2,hb3⟩
    case measure => simp [intOf];omega
  ·obtain rfl:k = l.length:=by omega
   have hge:¬ ((l.length:Int) < (l.length:Nat)):=by omega
   have hr:Hid (idxI l p = -1):=hid (by
    have h9:=hno.out;rw [List.take_length] at h9;unfold idxI
    rw [idx_none h9,if_neg (by omega)])
   go_wp2_with fail;go_ret;exact ⟨by rw [hr.out];rfl,hb.out⟩
theorem containsMov_any (f:Nat) (cap:Array Value) (v:Value) (l:List Mv) (p:Mv → Bool) (w:World) (hS:Mvs w v l) (hl:l.length ≤ 5000)
  (E:∀ (x:Mv) w1,(callFunc f (#[movV x] ++ cap)).run Tryz.prog w1 = .ok (.enter f (#[movV x] ++ cap)) w1)
  (F:∀ (x:Mv) w1,x ∈ l → Below w.heap.size w w1 → Calls Tryz.prog f (#[movV x] ++ cap) w1 fun e w' => e = .returned (.bool (p x)) ∧ Below w1.heap.size w1 w') :
  Calls Tryz.prog 118 #[v,.func (.func f) #[] cap] w fun e w' => e = .returned (.bool (l.any p)) ∧ Below w.heap.size w w':=by
 have H:=hid (indexMov_any f cap v l p w hS hl E F);rw [← idxI_any];clear E F;go_enter Tryz.func118,Tryz.ntmps118;go_wp2_with fail;refine H.out.mono ?_
 rintro e w2 ⟨rfl,hb⟩;replace hb:=hid hb;go_wp2_with fail;go_ret;exact ⟨rfl,hb.out⟩
theorem indexMk_any (f:Nat) (cap:Array Value) (v:Value) (l:List Mk) (p:Mk → Bool) (w:World) (hS:Mks w v l) (hl:l.length ≤ 5000)
  (E:∀ (x:Mk) w1,(callFunc f (#[mkV x] ++ cap)).run Tryz.prog w1 = .ok (.enter f (#[mkV x] ++ cap)) w1)
  (F:∀ (x:Mk) w1,x ∈ l → Below w.heap.size w w1 → Calls Tryz.prog f (#[mkV x] ++ cap) w1 fun e w' => e = .returned (.bool (p x)) ∧ Below w1.heap.size w1 w') :
  Calls Tryz.prog 87 #[v,.func (.func f) #[] cap] w fun e w' => e = .returned (.int .i64 (idxI l p)) ∧ Below w.heap.size w w':=by
 obtain ⟨a,c,rfl⟩:=hS.len;have HS:=hid hS;have HF:=hid F;have HE:Hid (∀ (x:Mk) w1,(callFunc f (#[mkV x] ++ cap)).run Tryz.prog w1 = .ok (.enter f (#[mkV x] ++ cap)) w1):=hid E;clear hS F E;go_enter Tryz.func87,Tryz.ntmps87;go_wp2_with fail
 go_loopw [8] (fun i wr => ∃ k:Nat,i = .int .i64 k ∧ k ≤ l.length ∧ Hid (∀ x ∈ l.take k,p x = false) ∧ Hid (Below w.heap.size w wr)) (fun i _ => l.length - (intOf i).toNat)
 case atStart => exact ⟨0,rfl,by omega,hid (fun x h => by simp at h),hid (Below.refl _ _)⟩
 case round =>
  obtain ⟨k,rfl,hk,hno,hb⟩:=hrel
  by_cases hlt:k < l.length
  ·have hlt':(k:Int) < (l.length:Nat):=by omega
   obtain ⟨x,hx⟩:=some_at hlt;obtain ⟨b,off,rfl⟩:=HS.out.addr (by omega);have hS2:=HS.out.below hb.out;have hcs:=mk_at hS2 rfl hx;obtain ⟨q0,q1⟩:=hcs;have hx':=hid hx;have hm:Hid (x ∈ l):=hid (List.mem_of_getElem? hx);have hF:=hid (fun w1 hb => HF.out x w1 hm.out hb)
   have he:=fun w1 => HE.out x w1
   unfold mkV at he;clear hS2 hx;go_wp2_with fail;refine (hF.out _ hb.out).mono ?_
   rintro e w2 ⟨rfl,hb2⟩;have hb3:=hid (hb.out.trans (hb2.mono hb.out.size));clear hb2
   by_cases hp:p x = true
   ·have hr:Hid (idxI l p = (k:Int)):=hid (by have:=idx_hit hx'.out hno.out hp;unfold idxI;rw [this,if_pos hlt])
    rw [hp];clear hp;go_wp2_with fail;go_ret;exact ⟨by rw [hr.out];rfl,hb3.out⟩
   ·have hp':p x = false:=by simpa using hp
    have hno2:Hid (∀ x ∈ l.take (k + 1),p x = false):=hid (fun y hy => by
     rw [take_snoc hx'.out,List.mem_append,List.mem_singleton] at hy
     rcases hy with hy | rfl
     ·exact hno.out y hy
     ·exact hp')
    rw [hp'];clear hp hp';go_wp2_with fail
    go_roundw
    case rel => exact ⟨k + 1,by go_num,by omega,hno2,hb3⟩
    case measure => simp [intOf];omega
  ·obtain rfl:k = l.length:=by omega
   have hge:¬ ((l.length:Int) < (l.length:Nat)):=by omega
   have hr:Hid (idxI l p = -1):=hid (by
    have h9:=hno.out;rw [List.take_length] at h9;unfold idxI
    rw [idx_none h9,if_neg (by omega)])
   go_wp2_with fail;go_ret;exact ⟨by rw [hr.out];rfl,hb.out⟩
theorem containsMk_any (f:Nat) (cap:Array Value) (v:Value) (l:List Mk) (p:Mk → Bool) (w:World) (hS:Mks w v l) (hl:l.length ≤ 5000)
  (E:∀ (x:Mk) w1,(callFunc f (#[mkV x] ++ cap)).run Tryz.prog w1 = .ok (.enter f (#[mkV x] ++ cap)) w1)
  (F:∀ (x:Mk) w1,x ∈ l → Below w.heap.size w w1 → Calls Tryz.prog f (#[mkV x] ++ cap) w1 fun e w' => e = .returned (.bool (p x)) ∧ Below w1.heap.size w1 w') :
  Calls Tryz.prog 120 #[v,.func (.func f) #[] cap] w fun e w' => e = .returned (.bool (l.any p)) ∧ Below w.heap.size w w':=by
 have H:=hid (indexMk_any f cap v l p w hS hl E F);rw [← idxI_any];clear E F;go_enter Tryz.func120,Tryz.ntmps120;go_wp2_with fail;refine H.out.mono ?_
 rintro e w2 ⟨rfl,hb⟩;replace hb:=hid hb;go_wp2_with fail;go_ret;exact ⟨rfl,hb.out⟩
end Mem
end
section
namespace Pk
open Mem
def W64:Nat:=18446744073709551616
theorem W64_pow:W64 = 2 ^ 64:=by decide
def putF:Nat → Nat → List UInt8
 | 0,_ => []
 | f + 1,n => if n < 128 then [UInt8.ofNat n] else UInt8.ofNat (n % 128 + 128) :: putF f (n / 128)
def putL (n:Nat):List UInt8:=putF 10 n
theorem putF_lt {f n:Nat} (h:n < 128):putF (f + 1) n = [UInt8.ofNat n]:=by rw [putF,if_pos h]
theorem putF_ge {f n:Nat} (h:¬ n < 128):putF (f + 1) n = UInt8.ofNat (n % 128 + 128) :: putF f (n / 128):=by rw [putF,if_neg h]
theorem putF_length (f:Nat):∀ n,(putF f n).length ≤ f:=by
 induction f with
 | zero => intro n;exact Nat.le_refl _
 | succ f ih =>
  intro n
  by_cases h:n < 128
  ·rw [putF_lt h];simp
  ·rw [putF_ge h];simp;exact ih _
theorem putL_length (n:Nat):(putL n).length ≤ 10:=putF_length 10 n
structure PutAt (n k m:Nat) (acc:List UInt8):Prop where
 len:acc.length = k
 le:k ≤ 9
 lt:m * 2 ^ (7 * k) < 2 ^ 64
 eq:acc ++ putF (10 - k) m = putL n
theorem PutAt.start {n:Nat} (h:n < W64):PutAt n 0 n []:=⟨rfl,by omega,by rw [W64_pow] at h;simpa using h,rfl⟩
theorem PutAt.next {n k m:Nat} {acc:List UInt8} (h:PutAt n k m acc) (hm:¬ m < 128):PutAt n (k + 1) (m / 128) (acc ++ [UInt8.ofNat (m % 128 + 128)]):=by
 obtain ⟨h1,h2,h3,h4⟩:=h
 have e:2 ^ (7 * (k + 1)) = 128 * 2 ^ (7 * k):=by rw [Nat.mul_add,Nat.pow_add];omega
 have h5:m / 128 * 2 ^ (7 * (k + 1)) < 2 ^ 64:=by
  rw [e,← Nat.mul_assoc];exact Nat.lt_of_le_of_lt (Nat.mul_le_mul_right _ (Nat.div_mul_le_self m 128)) h3
 have hk:k + 1 ≤ 9:=by
  rcases (show k = 9 ∨ k + 1 ≤ 9 by omega) with rfl | h'
  ·exfalso
   have:128 * 2 ^ (7 * 9) ≤ m * 2 ^ (7 * 9):=Nat.mul_le_mul_right _ (by omega)
   have e2:128 * 2 ^ (7 * 9) = 2 ^ 70:=by decide
   have e3:(2:Nat) ^ 64 ≤ 2 ^ 70:=by decide
   omega
  ·exact h'
 refine ⟨by simp [h1],hk,h5,?_⟩
 rw [← h4,show 10 - k = (10 - (k + 1)) + 1 from by omega,putF_ge hm,List.append_assoc]
 rfl
theorem PutAt.last {n k m:Nat} {acc:List UInt8} (h:PutAt n k m acc) (hm:m < 128):acc ++ [UInt8.ofNat m] = putL n:=by
 obtain ⟨h1,h2,h3,h4⟩:=h;rw [← h4,show 10 - k = (9 - k) + 1 from by omega,putF_lt hm]
theorem PutAt.lt64 {n k m:Nat} {acc:List UInt8} (h:PutAt n k m acc):m < W64:=by
 have:=h.lt;rw [W64_pow];exact Nat.lt_of_le_of_lt (Nat.le_mul_of_pos_right _ (Nat.two_pow_pos _)) this
theorem cell_of {m:Nat} (h:m < 256):cells8 [UInt8.ofNat m] = [Value.int .u8 (m:Int)]:=by
 unfold cells8;simp [UInt8.toNat_ofNat',Nat.mod_eq_of_lt h]
def fixF:Nat → Nat → List UInt8
 | 0,_ => []
 | f + 1,n => UInt8.ofNat (n % 256) :: fixF f (n / 256)
def fixL (n:Nat):List UInt8:=fixF 8 n
theorem fixF_length (f:Nat):∀ n,(fixF f n).length = f:=by
 induction f with
 | zero => intro n;rfl
 | succ f ih => intro n;rw [fixF];simp [ih]
theorem fixL_length (n:Nat):(fixL n).length = 8:=fixF_length 8 n
structure FixAt (n k m:Nat) (acc:List UInt8):Prop where
 len:acc.length = k
 le:k ≤ 8
 eq:acc ++ fixF (8 - k) m = fixL n
 lt:m < W64
theorem FixAt.start {n:Nat} (h:n < W64):FixAt n 0 n []:=⟨rfl,by omega,rfl,h⟩
theorem FixAt.next {n k m:Nat} {acc:List UInt8} (h:FixAt n k m acc) (hk:k < 8):FixAt n (k + 1) (m / 256) (acc ++ [UInt8.ofNat (m % 256)]):=by
 obtain ⟨h1,h2,h3,h4⟩:=h;refine ⟨by simp [h1],by omega,?_,Nat.lt_of_le_of_lt (Nat.div_le_self _ _) h4⟩
 rw [← h3,show 8 - k = (8 - (k + 1)) + 1 from by omega,fixF,List.append_assoc]
 rfl
theorem FixAt.last {n m:Nat} {acc:List UInt8} (h:FixAt n 8 m acc):acc = fixL n:=by
 have:=h.eq;rw [show (8:Nat) - 8 = 0 from rfl,fixF,List.append_nil] at this;exact this
def zigN (i:Int):Nat:=if 0 ≤ i then (2 * i).toNat else (2 * (-1 - i) + 1).toNat
def zagI (u:Nat):Int:=if u % 2 = 1 then -1 - (u / 2:Nat) else (u / 2:Nat)
theorem zig_lt {i:Int} (h0:-9223372036854775808 ≤ i) (h1:i ≤ 9223372036854775807):zigN i < W64:=by
 unfold zigN W64
 split <;> omega
theorem zag_zig (i:Int):zagI (zigN i) = i:=by
 unfold zagI zigN
 split <;> split <;> omega
theorem zag_bounds {u:Nat} (h:u < W64):-9223372036854775808 ≤ zagI u ∧ zagI u ≤ 9223372036854775807:=by
 unfold zagI;unfold W64 at h
 split <;> omega
def numGo:Nat → Nat → List UInt8 → Int × Nat × Nat
 | _,_,[] => (2,0,0)
 | i,acc,b :: t =>
  if (i = 9 ∧ 1 < b.toNat) ∨ (0 < i ∧ b.toNat = 0) then (3,0,0)
  else if b.toNat < 128 then (0,acc + b.toNat * 2 ^ (7 * i),i + 1)
  else numGo (i + 1) (acc + b.toNat % 128 * 2 ^ (7 * i)) t
def numR (l:List UInt8):Int × Nat × Nat:=numGo 0 0 l
end Pk
end
section
open Go.RowKit
namespace Pk
open Mem
theorem info8:(Tryz.prog.info? 5).map (fun i => (i.zero,i.size,i.bytes)) = some (some (.int .u8 0),1,1):=by kernel_rfl
theorem w64 {n:Nat} (h:n < W64):n < 18446744073709551616:=h
theorem one_cell (m:Int):∀ x ∈ [Value.int .u8 m],x.oneCell' = true:=fun x hx => by simp at hx;subst hx;rfl
theorem or128 (m:Nat):bits .or .u8 ((m:Int) % 256) 128 = ((m % 128 + 128:Nat):Int):=by
 have e:(m:Int) % 256 = ((m % 256:Nat):Int):=by omega
 have h:∀ b:Nat,b < 256 → b ||| 128 = b % 128 + 128:=by decide +kernel
 rw [e,show (128:Int) = ((128:Nat):Int) from rfl,u8_or_nat _ _ (by omega) (by decide),h _ (by omega)]
 congr 1
 omega
theorem own8_snoc {w:World} {base:Nat} {v:Value} {acc:List UInt8} {m:Nat} (hc:cells8 [UInt8.ofNat m] = [Value.int .u8 (m:Int)]) (h:w.ownsRow base 5 1 v (acc.length + 1) (cells8 acc ++ [.int .u8 (m:Int)])):Own8 w base v (acc ++ [UInt8.ofNat m]):=by
 unfold Own8;rw [cells8_append,hc,List.length_append,List.length_singleton];exact h
theorem _root_.Go.RowKit.Below.grown8 {w wr w3:World} {v:Value} {n:Nat} {x:Obj} {xs:List Value} (hb:Below w.heap.size w wr) (hg:(wr.alloc x).grownBy w3 v.ownBlock) (hO:wr.ownsRow w.heap.size 5 1 v n xs):Below w.heap.size w w3:=
 (hb.alloc hb.size x).grown hg (by have:=hb.size;simp;omega) (fun k e => (hO.lt k e).1)
theorem put_any (n:Nat) (w:World) (hn:n < W64) :
  Calls Tryz.prog 61 #[.int .u64 n] w fun e w' => e = .returned (.string (str (putL n))) ∧ Below w.heap.size w w':=by
 obtain ⟨i0,hi,hz0,hz1,hz2⟩:=info_parts info8;have HN:=hid hn;clear hn;go_enter Tryz.func61,Tryz.ntmps61;go_wp2_with fail
 go_loopw [0,3] (fun x v wr => ∃ (k m:Nat) (acc:List UInt8),x = .int .u64 m ∧ Hid (PutAt n k m acc) ∧ Hid (Own8 wr w.heap.size v acc) ∧ Below w.heap.size w wr) (fun x _ _ => (intOf x).toNat)
 case atStart => exact ⟨0,n,[],rfl,hid (PutAt.start HN.out),hid (own8_nil _ _),Below.refl _ _⟩
 case round =>
  obtain ⟨k,m,acc,rfl,hP,hO,hb⟩:=hrel;have hm64:=w64 hP.out.lt64
  have hl:acc.length ≤ 9:=by rw [hP.out.len];exact hP.out.le
  have hO':=hO.out;unfold Own8 at hO';have hsz:=hb.size
  by_cases hm:m < 128
  ·have hm':(m:Int) < 128:=by omega
   have HL:=hid (hP.out.last hm);have HC:=hid (cell_of (m:=m) (by omega));clear hm
   go_wp2_with (at_builtin;refine wpList_append_own _ rfl _ _ 76 rfl w.heap.size 5 i0 (.int .u8 0) 1 1 Tryz.underlying76 hi hz0 hz1 hz2 rfl (by decide) _ _ _ rfl (hO'.alloc _) ⟨wr.heap.size,0,none⟩ 1 1 [.int .u8 m] rfl rfl (cell_one_new _ _ _) (one_cell _) (by unfold maxLen;omega) (by omega) (by simp;omega) ?_;intro v' w3 hown hgrow _;have hS:=own8_string (own8_snoc HC.out hown);rw [HL.out] at hS;have hB:=hb.grown8 hgrow hO';clear hown hgrow)
   go_ret;exact ⟨rfl,hB⟩
  ·have hm':¬ (m:Int) < 128:=by omega
   have hP':=hP.out.next hm;have HC:=hid (cell_of (m:=m % 128 + 128) (by omega));have e8:=or128 m
   have hm2:128 ≤ m:=by omega
   clear hm;generalize m % 128 + 128 = x at *
   go_wp2_with (at_builtin;refine wpList_append_own _ rfl _ _ 76 rfl w.heap.size 5 i0 (.int .u8 0) 1 1 Tryz.underlying76 hi hz0 hz1 hz2 rfl (by decide) _ _ _ rfl (hO'.alloc _) ⟨wr.heap.size,0,none⟩ 1 1 [.int .u8 x] rfl rfl (cell_one_new _ _ _) (one_cell _) (by unfold maxLen;omega) (by omega) (by simp;omega) ?_;intro v' w3 hown hgrow _)
   have hO2:Own8 w3 w.heap.size v' (acc ++ [UInt8.ofNat x]):=own8_snoc HC.out hown;have hB:=hb.grown8 hgrow hO';clear hown hgrow hO';go_wp2_with fail
   go_roundw
   case rel => exact ⟨k + 1,m / 128,_,rfl,hid hP',hid hO2,hB⟩
   case measure => simp [intOf];omega
theorem cast_byte (n j:Nat):(n:Int) / 2 ^ j % 256 = ((n / 2 ^ j % 256:Nat):Int):=by
 rw [Int.natCast_emod,Int.natCast_ediv,Int.natCast_pow]
 rfl
theorem byte_val (m:Nat):Value.int .u8 ((m % 256:Nat):Int) = Value.int .u8 (((UInt8.ofNat (m % 256)).toNat:Nat):Int):=by
 rw [UInt8.toNat_ofNat',Nat.mod_eq_of_lt (show m % 256 < 2 ^ 8 from Nat.mod_lt _ (by decide))]
theorem fill_get {acc:List UInt8} {k:Nat} (hl:acc.length = k) (hk:k < 8):(cells8 (acc ++ List.replicate (8 - k) 0)).toArray[k]? = some (.int .u8 0):=by
 subst hl;rw [List.getElem?_toArray];unfold cells8;rw [List.getElem?_map,List.getElem?_append_right (Nat.le_refl _),Nat.sub_self,show 8 - acc.length = (7 - acc.length) + 1 from by omega,List.replicate_succ]
 rfl
theorem fill_set {acc:List UInt8} {k:Nat} (b:UInt8) (hl:acc.length = k) (hk:k < 8):(cells8 (acc ++ List.replicate (8 - k) 0)).toArray.setIfInBounds k (.int .u8 (b.toNat:Int)) = (cells8 ((acc ++ [b]) ++ List.replicate (8 - (k + 1)) 0)).toArray:=by
 subst hl;rw [List.setIfInBounds_toArray]
 congr 1
 rw [show 8 - acc.length = (8 - (acc.length + 1)) + 1 from by omega,List.replicate_succ,cells8_append,List.set_append_right _ _ (by rw [cells8_length];exact Nat.le_refl _),cells8_length,Nat.sub_self,List.append_assoc,cells8_append]
 rfl
theorem whole8 {w:World} {base:Nat} {acc:List UInt8} (h:w.heap[base]? = some (.cells (cells8 (acc ++ List.replicate (8 - 8) 0)).toArray 5 (0,0))) (hl:acc.length = 8):Own8 w base (.slice (some ⟨base,0,none⟩) 8 8) acc:=by
 rw [show List.replicate (8 - 8) (0:UInt8) = [] from rfl,List.append_nil] at h;refine ⟨by rw [cells8_length];omega,.inr ⟨base,8,_,by rw [hl],Nat.le_refl _,h,by omega,by decide,by simp [cells8_length,hl],?_⟩⟩
 rw [hl,List.take_of_length_le (by simp [cells8_length,hl])]
theorem fixed_any (n:Nat) (w:World) (hn:n < W64) :
  Calls Tryz.prog 104 #[.int .u64 n] w fun e w' => e = .returned (.string (str (fixL n))) ∧ Below w.heap.size w w':=by
 have HN:=hid hn;clear hn
 have hmk:∀ w,(Instr.makeSlice 76 (.int .i64 8) (.int .i64 8)).run Tryz.prog w = .ok (.slice (some ⟨w.heap.size,0,none⟩) 8 8) (w.alloc (.cells #[.int .u8 0,.int .u8 0,.int .u8 0,.int .u8 0,.int .u8 0,.int .u8 0,.int .u8 0,.int .u8 0] 5)):=fun _ => by kernel_rfl
 go_enter Tryz.func104,Tryz.ntmps104;go_wp2_with fail
 go_loopw [8] (fun i wr => ∃ (k m:Nat) (acc:List UInt8),i = .int .i64 k ∧ k ≤ 8 ∧ Hid (FixAt n k m acc) ∧ Hid (m = n / 2 ^ (8 * k)) ∧ Hid (wr.heap[w.heap.size]? = some (.cells (cells8 (acc ++ List.replicate (8 - k) 0)).toArray 5 (0,0))) ∧ Below w.heap.size w wr) (fun i _ => 8 - (intOf i).toNat)
 case atStart => exact ⟨0,n,[],rfl,by omega,hid (FixAt.start HN.out),hid (by simp),hid (alloc_new _ _),(Below.refl _ _).alloc (Nat.le_refl _) _⟩
 case round =>
  obtain ⟨k,m,acc,rfl,hk8,hP,hM,hO,hb⟩:=hrel
  by_cases hk:k < 8
  ·have hk':(k:Int) < 8:=by omega
   have hn':=w64 HN.out
   have hcell:wr.cell? ⟨w.heap.size,k,none⟩ = some (.int .u8 0):=by
    rw [cell_at hO.out];exact fill_get hP.out.len hk
   have hfree:=free_at hO.out k;have hb1:Below w.heap.size w (wr.setCell ⟨w.heap.size,k,none⟩ (.int .u8 ((n:Int) / 2 ^ (8 * k) % 256))):=hb.setCell (p:=⟨w.heap.size,k,none⟩) (Nat.le_refl _) _;have hO1:=set_at hO.out k (.int .u8 ((n:Int) / 2 ^ (8 * k) % 256));rw [cast_byte n (8 * k),← hM.out,byte_val m,fill_set _ hP.out.len hk] at hO1;have HO1:=hid hO1;clear hO1;go_wp2_with fail
   go_roundw
   case rel => exact ⟨k + 1,m / 256,_,by go_num,by omega,hid (hP.out.next hk),hid (by rw [hM.out,Nat.div_div_eq_div_mul,Nat.mul_add,Nat.pow_add]),by rw [cast_byte n (8 * k),← hM.out,byte_val m];exact HO1,hb1⟩
   case measure => simp [intOf];omega
  ·have hk':k = 8:=by omega
   subst hk';have hS:=own8_string (whole8 hO.out hP.out.len);rw [hP.out.last] at hS;clear hk;go_wp2_with fail;go_ret;exact ⟨rfl,hb⟩
end Pk
end
section
open Go.RowKit
namespace Wd
open Mem Pk
def hdR (c:Int):Int:=if c < 194 then 0 else if c < 224 then 1 else if c < 240 then 2 else if c < 245 then 3 else 0
def hdLo (c:Int):Int:=if c = 224 then 160 else if c = 240 then 144 else 128
def hdHi (c:Int):Int:=if c = 237 then 159 else if c = 244 then 143 else 191
def hdOk (c:Int):Bool:=decide (c < 128 ∨ (194 ≤ c ∧ c < 245))
def headV (c:Int):Value:=.tuple #[.int .i64 (hdR c),.int .u8 (hdLo c),.int .u8 (hdHi c),.bool (hdOk c)]
theorem headV_of {c r lo hi:Int} {b:Bool} (h1:hdR c = r) (h2:hdLo c = lo) (h3:hdHi c = hi) (h4:hdOk c = b):headV c = .tuple #[.int .i64 r,.int .u8 lo,.int .u8 hi,.bool b]:=by unfold headV;rw [h1,h2,h3,h4]
theorem results_tmp4 {fn:Func} {t u v x:Tmp} (h:fn.results = #[.tmp t,.tmp u,.tmp v,.tmp x]) (tmps:Array Value) (P:Program) (w:World) :
  (results fn tmps).run P w = .ok (.tuple #[tmps.getD t undef,tmps.getD u undef,tmps.getD v undef,tmps.getD x undef]) w:=by
 simp [results,h]
theorem hdOk_t {c:Int} (h:c < 128 ∨ (194 ≤ c ∧ c < 245)):hdOk c = true:=decide_eq_true h
theorem hdOk_f {c:Int} (h:¬ (c < 128 ∨ (194 ≤ c ∧ c < 245))):hdOk c = false:=decide_eq_false h
theorem head_any (c:Int) (w:World) (h0:0 ≤ c) (h1:c ≤ 255) :
  Calls Tryz.prog 175 #[.int .u8 c] w fun e w' => e = .returned (headV c) ∧ w = w':=by
 by_cases a1:c < 128
 ·rw [headV_of (show hdR c = 0 by unfold hdR;rw [if_pos (by omega)]) (show hdLo c = 128 by unfold hdLo;rw [if_neg (by omega),if_neg (by omega)]) (show hdHi c = 191 by unfold hdHi;rw [if_neg (by omega),if_neg (by omega)]) (hdOk_t (by omega))]
  go_enter Tryz.func175,Tryz.ntmps175;go_wp2_with fail
  (try simp only [Exit.inBlock,Exit.then])
  exact bodyPost_ret (results_tmp4 rfl _ _ _) rfl ⟨rfl,rfl⟩
 ·by_cases a2:c < 194
  ·rw [headV_of (show hdR c = 0 by unfold hdR;rw [if_pos (by omega)]) (show hdLo c = 128 by unfold hdLo;rw [if_neg (by omega),if_neg (by omega)]) (show hdHi c = 191 by unfold hdHi;rw [if_neg (by omega),if_neg (by omega)]) (hdOk_f (by omega))]
   go_enter Tryz.func175,Tryz.ntmps175;go_wp2_with fail
   (try simp only [Exit.inBlock,Exit.then])
   exact bodyPost_ret (results_tmp4 rfl _ _ _) rfl ⟨rfl,rfl⟩
  ·by_cases a3:c < 224
   ·rw [headV_of (show hdR c = 1 by unfold hdR;rw [if_neg (by omega),if_pos (by omega)]) (show hdLo c = 128 by unfold hdLo;rw [if_neg (by omega),if_neg (by omega)]) (show hdHi c = 191 by unfold hdHi;rw [if_neg (by omega),if_neg (by omega)]) (hdOk_t (by omega))]
    go_enter Tryz.func175,Tryz.ntmps175;go_wp2_with fail
    (try simp only [Exit.inBlock,Exit.then])
    exact bodyPost_ret (results_tmp4 rfl _ _ _) rfl ⟨rfl,rfl⟩
   ·by_cases a4:c < 240
    ·have hr:hdR c = 2:=by unfold hdR;rw [if_neg (by omega),if_neg (by omega),if_pos (by omega)]
     by_cases b1:c = 224
     ·subst b1
      rw [headV_of hr rfl rfl rfl];go_enter Tryz.func175,Tryz.ntmps175;go_wp2_with fail
      (try simp only [Exit.inBlock,Exit.then])
      exact bodyPost_ret (results_tmp4 rfl _ _ _) rfl ⟨rfl,rfl⟩
     ·by_cases b2:c = 237
      ·subst b2
       rw [headV_of hr rfl rfl rfl];go_enter Tryz.func175,Tryz.ntmps175;go_wp2_with fail
       (try simp only [Exit.inBlock,Exit.then])
       exact bodyPost_ret (results_tmp4 rfl _ _ _) rfl ⟨rfl,rfl⟩
      ·rw [headV_of hr (show hdLo c = 128 by unfold hdLo;rw [if_neg (by omega),if_neg (by omega)]) (show hdHi c = 191 by unfold hdHi;rw [if_neg (by omega),if_neg (by omega)]) (hdOk_t (by omega))]
       have e1:(c == 224) = false:=beq_eq_false_iff_ne.2 b1;have e2:(c == 237) = false:=beq_eq_false_iff_ne.2 b2;go_enter Tryz.func175,Tryz.ntmps175;go_wp2_with fail
       (try simp only [Exit.inBlock,Exit.then])
       exact bodyPost_ret (results_tmp4 rfl _ _ _) rfl ⟨rfl,rfl⟩
    ·by_cases a5:c < 245
     ·have hr:hdR c = 3:=by unfold hdR;rw [if_neg (by omega),if_neg (by omega),if_neg (by omega),if_pos (by omega)]
      by_cases b1:c = 240
      ·subst b1
       rw [headV_of hr rfl rfl rfl];go_enter Tryz.func175,Tryz.ntmps175;go_wp2_with fail
       (try simp only [Exit.inBlock,Exit.then])
       exact bodyPost_ret (results_tmp4 rfl _ _ _) rfl ⟨rfl,rfl⟩
      ·by_cases b2:c = 244
       ·subst b2
        rw [headV_of hr rfl rfl rfl];go_enter Tryz.func175,Tryz.ntmps175;go_wp2_with fail
        (try simp only [Exit.inBlock,Exit.then])
        exact bodyPost_ret (results_tmp4 rfl _ _ _) rfl ⟨rfl,rfl⟩
       ·rw [headV_of hr (show hdLo c = 128 by unfold hdLo;rw [if_neg (by omega),if_neg (by omega)]) (show hdHi c = 191 by unfold hdHi;rw [if_neg (by omega),if_neg (by omega)]) (hdOk_t (by omega))]
        have e1:(c == 240) = false:=beq_eq_false_iff_ne.2 b1;have e2:(c == 244) = false:=beq_eq_false_iff_ne.2 b2;go_enter Tryz.func175,Tryz.ntmps175;go_wp2_with fail
        (try simp only [Exit.inBlock,Exit.then])
        exact bodyPost_ret (results_tmp4 rfl _ _ _) rfl ⟨rfl,rfl⟩
     ·rw [headV_of (show hdR c = 0 by unfold hdR;rw [if_neg (by omega),if_neg (by omega),if_neg (by omega),if_neg (by omega)]) (show hdLo c = 128 by unfold hdLo;rw [if_neg (by omega),if_neg (by omega)]) (show hdHi c = 191 by unfold hdHi;rw [if_neg (by omega),if_neg (by omega)]) (hdOk_f (by omega))]
      go_enter Tryz.func175,Tryz.ntmps175;go_wp2_with fail
      (try simp only [Exit.inBlock,Exit.then])
      exact bodyPost_ret (results_tmp4 rfl _ _ _) rfl ⟨rfl,rfl⟩
def tailF:Int → Int → List UInt8 → Bool
 | _,_,[] => true
 | lo,hi,c :: t => decide (lo ≤ (c.toNat:Int)) && decide ((c.toNat:Int) ≤ hi) && tailF 128 191 t
def sgn:Nat → List UInt8 → Nat
 | 0,_ => 0
 | _ + 1,[] => 0
 | f + 1,c :: t => if hdOk c.toNat && decide ((hdR c.toNat).toNat ≤ t.length) && tailF (hdLo c.toNat) (hdHi c.toNat) (t.take (hdR c.toNat).toNat) then 1 + (hdR c.toNat).toNat + sgn f (t.drop (hdR c.toNat).toNat) else 0
def validU (s:ByteArray):Bool:=decide (sgn s.size s.data.toList = s.size)
theorem hdR_cases (c:Int):hdR c = 0 ∨ hdR c = 1 ∨ hdR c = 2 ∨ hdR c = 3:=by
 unfold hdR
 split
 ·exact .inl rfl
 ·split
  ·exact .inr (.inl rfl)
  ·split
   ·exact .inr (.inr (.inl rfl))
   ·split
    ·exact .inr (.inr (.inr rfl))
    ·exact .inl rfl
theorem hdLo_b (c:Int):128 ≤ hdLo c ∧ hdLo c ≤ 160:=by unfold hdLo;split <;> (try split) <;> omega
theorem hdHi_b (c:Int):143 ≤ hdHi c ∧ hdHi c ≤ 191:=by unfold hdHi;split <;> (try split) <;> omega
theorem bytes_new (w:World) (X:ByteArray) {n:Nat} (hX:X.size = n):∃ W1 cap,(convert 9 76 (.string X)).run Tryz.prog w = .ok (.slice (some ⟨w.heap.size,0,none⟩) n cap) W1 ∧
  (∀ j,j < n → W1.cell? ⟨w.heap.size,j,none⟩ = some (.int .u8 ((X.data.toList.getD j 0).toNat:Int))) ∧ Below w.heap.size w W1:=by
 subst hX;refine ⟨_,_,run_bytes_of_string w 9 76 5 X Tryz.underlying9 Tryz.underlying76 Tryz.underlying5,fun j hj => ?_,((Below.refl _ _).drew).alloc (Nat.le_refl _) _⟩
 have h:=World.cell?_alloc_mark w.drew (bytesRow X (grownCap w X.size 0 5)) 5 ((bytesRow X (grownCap w X.size 0 5)).size,(bytesRow X (grownCap w X.size 0 5)).size + 1) j;have hj':j < X.data.size:=hj;rw [bytesRow_at X _ j hj'] at h;rw [show (X.data.toList.getD j 0) = X.data[j] by simp [List.getD,Array.getElem?_eq_getElem hj']];exact h
theorem sgn_step {f:Nat} {l:List UInt8} {c:UInt8} {t:List UInt8} (hl:l = c :: t) {R:Nat} {lo hi:Int} (hR:hdR c.toNat = (R:Int)) (h1:hdLo c.toNat = lo) (h2:hdHi c.toNat = hi) :
  sgn (f + 1) l = if hdOk c.toNat && decide (R ≤ t.length) && tailF lo hi (t.take R) then 1 + R + sgn f (t.drop R) else 0:=by
 subst hl h1 h2;rw [sgn,hR,Int.toNat_natCast]
theorem tail_step {lo hi:Int} {l:List UInt8} {j:Nat} (hj:j < l.length):tailF lo hi (l.drop j) = (decide (lo ≤ ((l.getD j 0).toNat:Int)) && decide (((l.getD j 0).toNat:Int) ≤ hi) && tailF 128 191 (l.drop (j + 1))):=by
 rw [List.drop_eq_getElem_cons hj,tailF];simp [List.getD,List.getElem?_eq_getElem hj]
theorem sgn_mono (f:Nat):∀ g l,l.length ≤ f → f ≤ g → sgn f l = sgn g l:=by
 induction f with
 | zero =>
  intro g l hl _;have:l = []:=List.eq_nil_of_length_eq_zero (by omega);subst this
  cases g <;> rfl
 | succ f ih =>
  intro g l hl hg;obtain ⟨g,rfl⟩:∃ m,g = m + 1:=⟨g - 1,by omega⟩
  cases l with
  | nil => rfl
  | cons c t =>
   rw [sgn,sgn];simp only [List.length_cons] at hl;rw [ih g _ (by rw [List.length_drop];omega) (by omega)]
theorem data_drop {s:ByteArray} {k:Nat} (h:k < s.size):s.data.toList.drop k = s[k] :: s.data.toList.drop (k + 1):=by
 rw [List.drop_eq_getElem_cons (by simpa using h)]
 rfl
theorem size_list' (s:ByteArray):s.data.toList.length = s.size:=Array.length_toList
theorem signs_any (s:ByteArray) (w:World) (hs:s.size ≤ 100000) :
  Calls Tryz.prog 130 #[.string s] w fun e w' => (∃ n:Int,e = .returned (.tuple #[.int .i64 n,.int .i64 (sgn s.size s.data.toList)])) ∧ Below w.heap.size w w':=by
 go_enter Tryz.func130,Tryz.ntmps130;go_wp2_with fail
 go_step3
 go_wp2_with fail
 go_step3
 go_wp2_with fail
 go_loopw [4,5] (fun m i wr => ∃ (n k:Nat),m = .int .i64 n ∧ i = .int .i64 k ∧ n ≤ k ∧ k ≤ s.size ∧ Hid (sgn s.size s.data.toList = k + sgn (s.size - k) (s.data.toList.drop k)) ∧ Below w.heap.size w wr) (fun _ i _ => s.size - (intOf i).toNat)
 case atStart => exact ⟨0,0,rfl,rfl,by omega,by omega,hid (by simp),Below.refl _ _⟩
 case round =>
  obtain ⟨n,k,rfl,rfl,hn,hk,hS,hb⟩:=hrel
  by_cases hlt:k < s.size
  ·have hlt':(k:Int) < (s.size:Nat):=by omega
   have hc0:(0:Int) ≤ (s[k].toNat:Int):=by omega
   have hc1:(s[k].toNat:Int) ≤ 255:=by have:=UInt8.toNat_lt s[k];omega
   have HH:=hid (fun W => head_any (s[k].toNat:Int) W hc0 hc1);unfold headV at HH;have hR:=hdR_cases (s[k].toNat:Int);obtain ⟨R,hRe⟩:∃ r:Nat,hdR (s[k].toNat:Int) = (r:Int):=⟨(hdR (s[k].toNat:Int)).toNat,by omega⟩
   have hR3:R ≤ 3:=by omega
   have HG:=hid (sgn_step (f:=s.size - (k + 1)) (data_drop hlt) hRe rfl rfl);rw [hRe] at HH
   have hlen:(s.data.toList.drop (k + 1)).length = s.size - (k + 1):=by rw [List.length_drop,size_list']
   rw [hlen] at HG;clear hR hRe;have hl1:=hdLo_b (s[k].toNat:Int);have hh1:=hdHi_b (s[k].toNat:Int);generalize hdLo (s[k].toNat:Int) = lo at *;generalize hdHi (s[k].toNat:Int) = hi at *
   have hkk:s.size - k = s.size - (k + 1) + 1:=by omega
   rw [hkk] at hS;replace hkk:=hid hkk
   by_cases hok:hdOk (s[k].toNat:Int) = true
   ·rw [hok] at HH HG
    by_cases hle:s.size - k ≤ R
    ·have hE:Hid (sgn s.size s.data.toList = k):=hid (by rw [hS.out,HG.out,if_neg (by simp;omega)];rfl)
     have hle':decide (((s.size:Nat):Int) - (k:Int) ≤ (R:Int)) = true:=decide_eq_true (by omega);clear hc0 hc1 hlen HG hS
     go_wp2_with (go_at_call 175;refine (HH.out _).mono ?_;rintro e w' ⟨rfl,rfl⟩)
     try rw [Exit.noGoto_ret]
     go_ret2;exact ⟨⟨n,by rw [hE.out];rfl⟩,hb⟩
    ·have hle':decide (((s.size:Nat):Int) - (k:Int) ≤ (R:Int)) = false:=decide_eq_false (by omega)
     have hRd:decide (R ≤ s.size - (k + 1)) = true:=decide_eq_true (by omega);rw [hRd] at HG
     have hXl:(s.extract (k + 1) (k + 1 + R)).data.toList = (s.data.toList.drop (k + 1)).take R:=by
      rw [ByteArray.data_extract,Array.toList_extract];simp only [List.extract_eq_take_drop]
      congr 1
      omega
     have hXs:(s.extract (k + 1) (k + 1 + R)).size = R:=by rw [ByteArray.size_extract];omega
     rw [← hXl] at HG;obtain ⟨X,hX⟩:∃ X,s.extract (k + 1) (k + 1 + R) = X:=⟨_,rfl⟩;rw [hX] at HG hXs;obtain ⟨W1,cap,hcv,hcell,hb1⟩:=bytes_new wr X hXs
     have hXl':X.data.toList.length = R:=by rw [size_list',hXs]
     replace hcell:=hid hcell;have hb2:=hid (hb.trans (hb1.mono hb.size))
     have hk1:k + 1 + R ≤ s.size:=by omega
     have hNx:Hid (tailF lo hi X.data.toList = true → sgn s.size s.data.toList = (k + 1 + R) + sgn (s.size - (k + 1 + R)) (s.data.toList.drop (k + 1 + R))):=hid (fun h => by
      rw [hS.out,HG.out,h,if_pos (by rfl),List.drop_drop,sgn_mono (s.size - (k + 1 + R)) (s.size - (k + 1)) _ (by rw [List.length_drop,size_list'];omega) (by omega)]
      omega)
     have hSt:Hid (tailF lo hi X.data.toList = false → sgn s.size s.data.toList = k):=hid (fun h => by
      rw [hS.out,HG.out,h,if_neg (by simp)];rfl)
     replace hXl':=hid hXl';have hXs':=hid hXs;clear hc0 hc1 hlen HG hS hXl hRd hb1 hok hXs hb
     go_wp2_with (go_at_call 175;refine (HH.out _).mono ?_;rintro e w' ⟨rfl,rfl⟩)
     go_loopw [7,8,45] (fun a b i W => ∃ (j:Nat) (x y:Int),a = .int .u8 x ∧ b = .int .u8 y ∧ i = .int .i64 j ∧ j ≤ R ∧ 0 ≤ x ∧ x ≤ 255 ∧ 0 ≤ y ∧ y ≤ 255 ∧ Hid (tailF lo hi X.data.toList = tailF x y (X.data.toList.drop j)) ∧ Hid (W = W1)) (fun _ _ i _ => R - (intOf i).toNat)
     case atStart => exact ⟨0,lo,hi,rfl,rfl,rfl,by omega,by omega,by omega,by omega,by omega,hid rfl,hid rfl⟩
     case round =>
      obtain ⟨j,x,y,rfl,rfl,rfl,hj,hx0,hx1,hy0,hy1,hT,hW⟩:=hrel
      by_cases hjR:j < R
      ·have hjR':(j:Int) < (R:Nat):=by omega
       have hcj:=hcell.out j hjR;rw [← hW.out] at hcj;have hst:=tail_step (lo:=x) (hi:=y) (l:=X.data.toList) (j:=j) (by rw [hXl'.out];exact hjR)
       have hz0:(0:Int) ≤ ((X.data.toList.getD j 0).toNat:Int):=by omega
       have hz1:((X.data.toList.getD j 0).toNat:Int) ≤ 255:=by have:=UInt8.toNat_lt (X.data.toList.getD j 0);omega
       generalize ((X.data.toList.getD j 0).toNat:Int) = z at *
       by_cases h1:z < x
       ·have hF:=hid (hSt.out (by rw [hT.out,hst,decide_eq_false (by omega:¬ x ≤ z)];rfl))
        clear hst;go_wp2_with fail
        try rw [Exit.noGoto_ret]
        go_ret2;exact ⟨⟨n,by rw [hF.out];rfl⟩,by rw [hW.out];exact hb2.out⟩
       ·by_cases h2:y < z
        ·have hF:=hid (hSt.out (by rw [hT.out,hst,decide_eq_false (by omega:¬ z ≤ y),Bool.and_false];rfl))
         clear hst;go_wp2_with fail
         try rw [Exit.noGoto_ret]
         go_ret2;exact ⟨⟨n,by rw [hF.out];rfl⟩,by rw [hW.out];exact hb2.out⟩
        ·have hF:=hid (hT.out.trans (hst.trans (by rw [decide_eq_true (by omega:x ≤ z),decide_eq_true (by omega:z ≤ y),Bool.and_self,Bool.true_and])))
         clear hst;go_wp2_with fail
         go_roundw
         case rel => exact ⟨j + 1,128,191,rfl,rfl,by go_num,by omega,by omega,by omega,by omega,by omega,hF,hW⟩
         case measure => simp [intOf];omega
      ·obtain rfl:j = R:=by omega
       have hF:=hid (hNx.out (by rw [hT.out,List.drop_eq_nil_of_le (by rw [hXl'.out];exact Nat.le_refl _)];rfl))
       have hb3:Below w.heap.size w wr:=by rw [hW.out];exact hb2.out
       go_wp2_with fail
       go_roundw
       case rel => exact ⟨n + 1,k + 1 + j,by go_num,by go_num,by omega,by omega,hF,hb3⟩
       case measure => simp [intOf];omega
   ·have hok':hdOk (s[k].toNat:Int) = false:=by simpa using hok
    rw [hok'] at HH HG;have hE:Hid (sgn s.size s.data.toList = k):=hid (by rw [hS.out,HG.out,if_neg (by simp)];rfl);clear hc0 hc1 hlen HG hS hok hok'
    go_wp2_with (go_at_call 175;refine (HH.out _).mono ?_;rintro e w' ⟨rfl,rfl⟩)
    try rw [Exit.noGoto_ret]
    go_ret2;exact ⟨⟨n,by rw [hE.out];rfl⟩,hb⟩
  ·obtain rfl:k = s.size:=by omega
   have hE:Hid (sgn s.size s.data.toList = s.size):=hid (by rw [hS.out,Nat.sub_self];rfl);clear hS;go_wp2_with fail
   try rw [Exit.noGoto_ret]
   go_ret2;exact ⟨⟨n,by rw [hE.out];rfl⟩,hb⟩
theorem valid_any (s:ByteArray) (w:World) (hs:s.size ≤ 100000) :
  Calls Tryz.prog 90 #[.string s] w fun e w' => e = .returned (.bool (validU s)) ∧ Below w.heap.size w w':=by
 have H:=hid (signs_any s w hs);unfold validU;generalize sgn s.size s.data.toList = n at *
 have hd:((n:Int) == (s.size:Int)) = decide (n = s.size):=by
  rw [Bool.eq_iff_iff,beq_iff_eq,decide_eq_true_iff];omega
 go_enter Tryz.func90,Tryz.ntmps90;go_wp2_with fail;refine H.out.mono ?_
 rintro e w1 ⟨⟨m,rfl⟩,hb⟩;go_wp2_with fail;go_ret;exact ⟨rfl,hb⟩
end Wd
end
section
open Go.RowKit
namespace Tr
open Mem Tp
def oneR (r:Rw):Bool:=decide (1 ≤ r.ch ∧ r.ch ≤ 2147483647 ∧ 0 ≤ r.pa ∧ r.pa ≤ 2147483647 ∧ r.nm.size ≤ 64) && Wd.validU r.nm
theorem one_any (r:Rw) (w:World) (hs:r.nm.size ≤ 100000) :
  Calls Tryz.prog 45 #[rowV r] w fun e w' => e = .returned (.bool (oneR r)) ∧ Below w.heap.size w w':=by
 have HV:=hid (fun W => Wd.valid_any r.nm W hs);obtain ⟨ch,pa,nm,rk⟩:=r;unfold rowV oneR;simp only at hs HV ⊢;go_enter Tryz.func45,Tryz.ntmps45
 by_cases h1:1 ≤ ch
 ·by_cases h2:ch ≤ 2147483647
  ·by_cases h3:0 ≤ pa
   ·by_cases h4:pa ≤ 2147483647
    ·by_cases h5:nm.size ≤ 64
     ·have d1:=decide_eq_true h1
      have d2:=decide_eq_true h2;have d3:=decide_eq_true h3;have d4:=decide_eq_true h4;have d5:decide ((nm.size:Int) ≤ 64) = true:=decide_eq_true (by omega)
      have h5':(nm.size:Int) ≤ 64:=by omega
      have hr:Hid ((decide (1 ≤ ch ∧ ch ≤ 2147483647 ∧ 0 ≤ pa ∧ pa ≤ 2147483647 ∧ nm.size ≤ 64) && Wd.validU nm) = Wd.validU nm):=hid (by rw [decide_eq_true ⟨h1,h2,h3,h4,h5⟩,Bool.true_and]);rw [hr.out];go_wp2_with fail;refine (HV.out _).mono ?_
      rintro e w2 ⟨rfl,hb2⟩;replace hb2:=hid (((Below.refl w.heap.size w).alloc (Nat.le_refl _) _).trans (hb2.mono (by simp)));go_wp2_with fail;go_ret;exact ⟨rfl,hb2.out⟩
     ·have d1:=decide_eq_true h1
      have d2:=decide_eq_true h2;have d3:=decide_eq_true h3;have d4:=decide_eq_true h4;have d5:decide ((nm.size:Int) ≤ 64) = false:=decide_eq_false (by omega)
      have hr:(decide (1 ≤ ch ∧ ch ≤ 2147483647 ∧ 0 ≤ pa ∧ pa ≤ 2147483647 ∧ nm.size ≤ 64) && Wd.validU nm) = false:=by rw [decide_eq_false (by omega),Bool.false_and]
      rw [hr];go_wp2_with fail;go_ret;exact ⟨rfl,(Below.refl w.heap.size w).alloc (Nat.le_refl _) _⟩
    ·have d1:=decide_eq_true h1
     have d2:=decide_eq_true h2;have d3:=decide_eq_true h3;have d4:=decide_eq_false h4
     have hr:(decide (1 ≤ ch ∧ ch ≤ 2147483647 ∧ 0 ≤ pa ∧ pa ≤ 2147483647 ∧ nm.size ≤ 64) && Wd.validU nm) = false:=by rw [decide_eq_false (by omega),Bool.false_and]
     rw [hr];go_wp2_with fail;go_ret;exact ⟨rfl,(Below.refl w.heap.size w).alloc (Nat.le_refl _) _⟩
   ·have d1:=decide_eq_true h1
    have d2:=decide_eq_true h2;have d3:=decide_eq_false h3
    have hr:(decide (1 ≤ ch ∧ ch ≤ 2147483647 ∧ 0 ≤ pa ∧ pa ≤ 2147483647 ∧ nm.size ≤ 64) && Wd.validU nm) = false:=by rw [decide_eq_false (by omega),Bool.false_and]
    rw [hr];go_wp2_with fail;go_ret;exact ⟨rfl,(Below.refl w.heap.size w).alloc (Nat.le_refl _) _⟩
  ·have d1:=decide_eq_true h1
   have d2:=decide_eq_false h2
   have hr:(decide (1 ≤ ch ∧ ch ≤ 2147483647 ∧ 0 ≤ pa ∧ pa ≤ 2147483647 ∧ nm.size ≤ 64) && Wd.validU nm) = false:=by rw [decide_eq_false (by omega),Bool.false_and]
   rw [hr];go_wp2_with fail;go_ret;exact ⟨rfl,(Below.refl w.heap.size w).alloc (Nat.le_refl _) _⟩
 ·have d1:=decide_eq_false h1
  have hr:(decide (1 ≤ ch ∧ ch ≤ 2147483647 ∧ 0 ≤ pa ∧ pa ≤ 2147483647 ∧ nm.size ≤ 64) && Wd.validU nm) = false:=by rw [decide_eq_false (by omega),Bool.false_and]
  rw [hr];go_wp2_with fail;go_ret;exact ⟨rfl,(Below.refl w.heap.size w).alloc (Nat.le_refl _) _⟩
theorem enterP (args:Array Value) (w:World):(callFunc 215 args).run Tryz.prog w = .ok (.enter 215 args) w:=by simp [go_sem]
theorem enterS (args:Array Value) (w:World):(callFunc 168 args).run Tryz.prog w = .ok (.enter 168 args) w:=by simp [go_sem]
theorem place1_any (r:Rw) (b:Nat) (x:Int) (w:World) (hb:w.cell? ⟨b,0,none⟩ = some (.int .i64 x)) :
  Calls Tryz.prog 215 #[rowV r,.pointer (some ⟨b,0,none⟩)] w fun e w' => e = .returned (.bool (r.ch == x)) ∧ Below w.heap.size w w':=by
 have hlt:=World.block_lt_of_cell? _ _ hb;have hb2:(w.alloc (.cells #[.int .i64 r.ch,.int .i64 r.pa,.string r.nm,.float .f64 r.rk] 96)).cell? ⟨b,0,none⟩ = some (.int .i64 x):=(((Below.refl w.heap.size w).alloc (Nat.le_refl _) _).cell (p:=⟨b,0,none⟩) hlt).trans hb;unfold rowV;obtain ⟨q,hq⟩:∃ q,(r.ch == x) = q:=⟨_,rfl⟩;rw [hq];go_enter Tryz.func215,Tryz.ntmps215;go_wp2_with fail;go_ret;exact ⟨rfl,(Below.refl w.heap.size w).alloc (Nat.le_refl _) _⟩
theorem set1_any (r:Rw) (b:Nat) (x:Int) (w:World) (hb:w.cell? ⟨b,0,none⟩ = some (.int .i64 x)) :
  Calls Tryz.prog 168 #[rowV r,.pointer (some ⟨b,0,none⟩)] w fun e w' => e = .returned (.bool (decide (x < r.ch))) ∧ Below w.heap.size w w':=by
 have hlt:=World.block_lt_of_cell? _ _ hb;have hb2:(w.alloc (.cells #[.int .i64 r.ch,.int .i64 r.pa,.string r.nm,.float .f64 r.rk] 96)).cell? ⟨b,0,none⟩ = some (.int .i64 x):=(((Below.refl w.heap.size w).alloc (Nat.le_refl _) _).cell (p:=⟨b,0,none⟩) hlt).trans hb;unfold rowV;obtain ⟨q,hq⟩:∃ q,decide (x < r.ch) = q:=⟨_,rfl⟩;rw [hq];go_enter Tryz.func168,Tryz.ntmps168;go_wp2_with fail;go_ret;exact ⟨rfl,(Below.refl w.heap.size w).alloc (Nat.le_refl _) _⟩
theorem place_any (v:Value) (l:List Rw) (x:Int) (w:World) (hS:Mem.Rows w v l) (hl:l.length ≤ 5000) :
  Calls Tryz.prog 166 #[v,.int .i64 x] w fun e w' => e = .returned (.tuple #[.int .i64 (idxI l (fun r => r.ch == x)),.bool (decide (0 ≤ idxI l (fun r => r.ch == x)))]) ∧ Below w.heap.size w w':=by
 have hmf:∀ (fn:Fn) (first cap:Array Value) (w:World),(Instr.makeFunc fn first cap).run Tryz.prog w = .ok (.func fn first cap) w:=fun _ _ _ _ => rfl
 have H:=hid (fun (W:World) (b:Nat) (hS:Mem.Rows W v l) (hb:W.cell? ⟨b,0,none⟩ = some (.int .i64 x)) => indexRow_any 215 #[.pointer (some ⟨b,0,none⟩)] v l (fun r => r.ch == x) W hS hl (fun r w1 => enterP _ w1) (fun r w1 _ hb1 => place1_any r b x w1 ((hb1.cell (p:=⟨b,0,none⟩) (World.block_lt_of_cell? _ _ hb)).trans hb)));have hS':=hid (hS.below ((Below.refl w.heap.size w).alloc (Nat.le_refl _) (.cells #[.int .i64 x] 3)));have hc0:(w.alloc (.cells #[.int .i64 x] 3)).cell? ⟨w.heap.size,0,none⟩ = some (.int .i64 x):=cell_at (alloc_new w _) 0;replace hc0:=hid hc0
 clear hS;generalize idxI l (fun r => r.ch == x) = n at *;go_enter Tryz.func166,Tryz.ntmps166;go_wp2_with fail;refine (H.out _ _ hS'.out hc0.out).mono ?_
 rintro e w2 ⟨rfl,hb2⟩;replace hb2:=hid (((Below.refl w.heap.size w).alloc (Nat.le_refl _) _).trans (hb2.mono (by simp)));go_wp2_with fail;go_ret2;exact ⟨rfl,hb2.out⟩
theorem flat_take {α:Type} {f:α → List Value} {k:Nat} (hf:∀ x,(f x).length = k) (l:List α):∀ i:Nat,(l.take i).flatMap f = (l.flatMap f).take (i * k):=by
 induction l with
 | nil => intro i;simp
 | cons x l ih =>
  intro i
  cases i with
  | zero => simp
  | succ i => rw [List.take_succ_cons,List.flatMap_cons,List.flatMap_cons,ih,Nat.succ_mul,List.take_append,List.take_of_length_le (l:=f x) (by rw [hf];omega),hf,show i * k + k - k = i * k by omega]
theorem flat_drop {α:Type} {f:α → List Value} {k:Nat} (hf:∀ x,(f x).length = k) (l:List α):∀ i:Nat,(l.drop i).flatMap f = (l.flatMap f).drop (i * k):=by
 induction l with
 | nil => intro i;simp
 | cons x l ih =>
  intro i
  cases i with
  | zero => simp
  | succ i => rw [List.drop_succ_cons,List.flatMap_cons,ih,Nat.succ_mul,List.drop_append,show (f x).drop (i * k + k) = [] from List.drop_eq_nil_of_le (by rw [hf];omega),List.nil_append,hf,show i * k + k - k = i * k by omega]
theorem enterS' (r:Rw) (b:Nat) (w:World):(callFunc 168 (#[rowV r] ++ #[.pointer (some ⟨b,0,none⟩)])).run Tryz.prog w = .ok (.enter 168 (#[rowV r] ++ #[.pointer (some ⟨b,0,none⟩)])) w:=enterS _ w
theorem idxI_lt {α:Type} {l:List α} {p:α → Bool} (h:l.findIdx p < l.length):idxI l p = (l.findIdx p:Int):=if_pos h
theorem idxI_no {α:Type} {l:List α} {p:α → Bool} (h:¬ l.findIdx p < l.length):idxI l p = -1:=if_neg h
theorem set_any (v:Value) (l:List Rw) (r:Rw) (w:World) (hS:Mem.Rows w v l) (hl:l.length ≤ 4000) :
  Calls Tryz.prog 124 #[v,rowV r] w fun e w' => ∃ v',e = .returned v' ∧ w'.ownsRow w.heap.size 96 4 v' (setR l r).length ((setR l r).flatMap rowC) ∧ Below w.heap.size w w':=by
 have hmf:∀ (fn:Fn) (first cap:Array Value) (w:World),(Instr.makeFunc fn first cap).run Tryz.prog w = .ok (.func fn first cap) w:=fun _ _ _ _ => rfl
 have HC:=hid (fun W v (h:Mem.Rows W v l) => cloneRow_any v l.length (l.flatMap rowC) W h (flat_length rowC_len l) (by omega) (flat_ones rowC_one l));have HP:=hid (fun W v (h:Mem.Rows W v l) => place_any v l r.ch W h (by omega))
 have HI:=hid (fun (W:World) (v:Value) (b:Nat) (hS:Mem.Rows W v l) (hb:W.cell? ⟨b,0,none⟩ = some (.int .i64 r.ch)) => indexRow_any 168 #[.pointer (some ⟨b,0,none⟩)] v l (fun x => decide (r.ch < x.ch)) W hS (by omega) (fun x w1 => enterS' x b w1) (fun x w1 _ hb1 => set1_any x b r.ch w1 ((hb1.cell (p:=⟨b,0,none⟩) (World.block_lt_of_cell? _ _ hb)).trans hb)));have HN:=hid (fun (W:World) (v:Value) (i B vb vc:Nat) h1 h2 h3 h4 h5 => insertRow_any v l.length i (l.flatMap rowC) (rowC r) B vb vc W h1 h2 h3 (by omega) (rowC_len r) (rowC_one r) (flat_ones rowC_one l) h4 h5)
 obtain ⟨W,hW⟩:∃ W,W = w.alloc (.cells #[.int .i64 r.ch,.int .i64 r.pa,.string r.nm,.float .f64 r.rk] 96):=⟨_,rfl⟩;have hb:=(Below.refl w.heap.size w).alloc (Nat.le_refl _) (.cells #[.int .i64 r.ch,.int .i64 r.pa,.string r.nm,.float .f64 r.rk] 96);have hg:=alloc_new w (.cells #[.int .i64 r.ch,.int .i64 r.pa,.string r.nm,.float .f64 r.rk] 96);rw [← hW] at hb hg
 have hsz:W.heap.size = w.heap.size + 1:=by rw [hW];simp
 have hSW:=hid (hS.below hb);replace hb:=hid hb;replace hg:=hid hg;have hW':=hid hW;clear hS hW;obtain ⟨P,hP⟩:∃ P,P = idxI l (fun x => x.ch == r.ch):=⟨_,rfl⟩;obtain ⟨I,hI⟩:∃ I,I = idxI l (fun x => decide (r.ch < x.ch)):=⟨_,rfl⟩;rw [← hP] at HP;rw [← hI] at HI;have hP':=hid hP;have hI':=hid hI;clear hP hI;unfold rowV;go_enter Tryz.func124,Tryz.ntmps124;go_wp2_with fail;rw [← hW'.out];clear hW';refine (HC.out W v hSW.out).mono ?_
 rintro e w1 ⟨v1,rfl,hO1,hb1⟩;have hg1:=hid (below_at hb1 hg.out (by omega));have c0:w1.cell? ⟨w.heap.size,0,none⟩ = some (.int .i64 r.ch):=cell_at hg1.out 0;have hS1:=hid (hSW.out.below hb1);have hbb:=hid (hb.out.trans (hb1.mono (by omega)));replace hO1:=hid hO1;have hs1:=hb1.size;clear hb1;go_wp2_with fail;refine (HP.out w1 v hS1.out).mono ?_
 rintro e w2 ⟨rfl,hb2⟩;have hg2:=hid (below_at hb2 hg1.out (by omega));have c0:w2.cell? ⟨w.heap.size,0,none⟩ = some (.int .i64 r.ch):=cell_at hg2.out 0;have c1:w2.cell? ⟨w.heap.size,1,none⟩ = some (.int .i64 r.pa):=cell_at hg2.out 1;have c2:w2.cell? ⟨w.heap.size,2,none⟩ = some (.string r.nm):=cell_at hg2.out 2;have c3:w2.cell? ⟨w.heap.size,3,none⟩ = some (.float .f64 r.rk):=cell_at hg2.out 3;have hS2:=hid (hS1.out.below hb2);replace hbb:=hid (hbb.out.trans (hb2.mono (by omega)));replace hO1:=hid (own_below hO1.out hb2);have hs2:=hb2.size;clear hb2 hg1 hS1
 by_cases hf:l.findIdx (fun x => x.ch == r.ch) < l.length
 ·have hPe:P = ((l.findIdx (fun x => x.ch == r.ch):Nat):Int):=hP'.out.trans (idxI_lt hf)
  have hse:Hid (setR l r = l.set (l.findIdx (fun x => x.ch == r.ch)) r):=hid (by unfold setR;rw [if_pos hf]);generalize l.findIdx (fun x => x.ch == r.ch) = k at *;subst hPe;have d0:decide ((0:Int) ≤ (k:Int)) = true:=decide_eq_true (by omega)
  have hk:(k:Int) < (l.length:Nat):=by omega
  obtain ⟨hcl,hcases⟩:=hO1.out
  rcases hcases with ⟨-,h0⟩ | ⟨g,cap,cur,rfl,hgB,hh,hnc,hm,hcs,htk⟩
  ·omega
  obtain ⟨i0,hinf,hz0,hz1,hz2⟩:=info_parts infoRow
  have hszr:(Tryz.prog.info? 96).map (·.size) = some (rowC r).length:=by rw [hinf];simp [hz1,rowC_len]
  have hfit:k * 4 + (rowC r).length ≤ cur.toList.length:=by rw [rowC_len,Array.length_toList];omega
  have hh':Hid (w2.heap[g]? = some (.cells cur.toList.toArray 96 (0,0))):=hid (by rw [Array.toArray_toList];exact hh);have hfs:=hid (flat_splice rowC_len l k r (by omega));have hst:=hid (splice_take (cur:=cur.toList) (cs:=rowC r) (o:=k * 4) (n:=l.length * 4) (by rw [rowC_len];omega) (by have:=Array.length_toList (xs:=cur);omega));have hsl:=hid (splice_len hfit)
  have hge:w.heap.size ≤ g:=by omega
  have hcs':=hid hcs;have htk':=hid htk;clear hcs htk hO1 hh hcl
  go_wp2_with (refine wpList_store_splice (by rfl) 96 _ _ (by rfl) g (k * 4) (rowC r) (by rfl) (by rfl) 96 cur.toList hh'.out hszr hfit (rowC_one r) ?_;intro w4 hg4 hB4 hO4)
  go_ret;refine ⟨_,rfl,?_,hB4.out _ _ hbb.out hge⟩
  rw [hse.out,List.length_set,← hfs.out];refine ⟨by rw [splice_len (by rw [rowC_len,flat_length rowC_len];omega),flat_length rowC_len],.inr ⟨g,cap,_,rfl,hge,hg4.out,hnc,hm,?_,?_⟩⟩
  ·rw [List.size_toArray,hsl.out,Array.length_toList];exact hcs'.out
  ·rw [List.toList_toArray,hst.out,htk'.out]
 ·have hPe:P = -1:=hP'.out.trans (idxI_no hf)
  subst hPe;have d0:decide ((0:Int) ≤ -1) = false:=decide_eq_false (by omega);have hse:Hid (setR l r = l.take (l.findIdx (fun x => decide (r.ch < x.ch))) ++ r :: l.drop (l.findIdx (fun x => decide (r.ch < x.ch)))):=hid (by unfold setR;rw [if_neg hf]);clear hf;go_wp2_with fail;refine (HI.out w2 v w.heap.size hS2.out c0).mono ?_
  rintro e w3 ⟨rfl,hb3⟩;have hg3:=hid (below_at hb3 hg2.out (by omega));have c0:w3.cell? ⟨w.heap.size,0,none⟩ = some (.int .i64 r.ch):=cell_at hg3.out 0;have c1:w3.cell? ⟨w.heap.size,1,none⟩ = some (.int .i64 r.pa):=cell_at hg3.out 1;have c2:w3.cell? ⟨w.heap.size,2,none⟩ = some (.string r.nm):=cell_at hg3.out 2;have c3:w3.cell? ⟨w.heap.size,3,none⟩ = some (.float .f64 r.rk):=cell_at hg3.out 3;have hS3:=hid (hS2.out.below hb3);replace hbb:=hid (hbb.out.trans (hb3.mono (by omega)));replace hO1:=hid (own_below hO1.out hb3);have hs3:=hb3.size
  clear hb3 hg2 hS2;have hKl:l.findIdx (fun x => decide (r.ch < x.ch)) ≤ l.length:=List.findIdx_le_length;obtain ⟨av,cv,hv⟩:=hS3.out.len
  by_cases hf2:l.findIdx (fun x => decide (r.ch < x.ch)) < l.length
  ·have hIe:I = ((l.findIdx (fun x => decide (r.ch < x.ch)):Nat):Int):=hI'.out.trans (idxI_lt hf2)
   generalize l.findIdx (fun x => decide (r.ch < x.ch)) = k at *;subst hIe;have d1:decide ((k:Int) < 0) = false:=decide_eq_false (by omega)
   have d2:¬ ((k:Int) < 0):=by omega
   go_wp2_with fail;have hg4:=alloc_new w3 (.cells #[.int .i64 r.ch,.int .i64 r.pa,.string r.nm,.float .f64 r.rk] 96);have hO4:=World.ownsRow.alloc hO1.out (.cells #[.int .i64 r.ch,.int .i64 r.pa,.string r.nm,.float .f64 r.rk] 96);have hlo:=hO1.out.lt;refine (HN.out _ v1 k W.heap.size w3.heap.size 1 hO4 (by simp;omega) hKl hg4 (fun g c e => by subst e;have:=(hlo g rfl).2;omega)).mono ?_
   rintro e w5 ⟨v5,rfl,hO5,hb5⟩;have hbf:=hid ((hbb.out.alloc (by omega) (.cells #[.int .i64 r.ch,.int .i64 r.pa,.string r.nm,.float .f64 r.rk] 96)).trans (hb5.mono (by omega)));replace hO5:=hid hO5;clear hb5 hO4 hg4 hlo;go_wp2_with fail;go_ret;refine ⟨_,rfl,?_,hbf.out⟩
   rw [hse.out,List.length_append,List.length_cons,List.length_take,List.length_drop,List.flatMap_append,List.flatMap_cons,flat_take rowC_len,flat_drop rowC_len,← List.append_assoc,show min k l.length + (l.length - k + 1) = l.length + 1 by omega];exact own_mono hO5.out (by omega)
  ·have hIe:I = -1:=hI'.out.trans (idxI_no hf2)
   have hke:l.findIdx (fun x => decide (r.ch < x.ch)) = l.length:=by omega
   rw [hke] at hse hKl;subst hIe hv;clear hke hf2;go_wp2_with fail;have hg4:=alloc_new w3 (.cells #[.int .i64 r.ch,.int .i64 r.pa,.string r.nm,.float .f64 r.rk] 96);have hO4:=World.ownsRow.alloc hO1.out (.cells #[.int .i64 r.ch,.int .i64 r.pa,.string r.nm,.float .f64 r.rk] 96);have hlo:=hO1.out.lt;refine (HN.out _ v1 l.length W.heap.size w3.heap.size 1 hO4 (by simp;omega) hKl hg4 (fun g c e => by subst e;have:=(hlo g rfl).2;omega)).mono ?_
   rintro e w5 ⟨v5,rfl,hO5,hb5⟩;have hbf:=hid ((hbb.out.alloc (by omega) (.cells #[.int .i64 r.ch,.int .i64 r.pa,.string r.nm,.float .f64 r.rk] 96)).trans (hb5.mono (by omega)));replace hO5:=hid hO5;clear hb5 hO4 hg4 hlo;go_wp2_with fail;go_ret;refine ⟨_,rfl,?_,hbf.out⟩
   rw [hse.out,List.length_append,List.length_cons,List.length_take,List.length_drop,List.flatMap_append,List.flatMap_cons,flat_take rowC_len,flat_drop rowC_len,← List.append_assoc,show min l.length l.length + (l.length - l.length + 1) = l.length + 1 by omega];exact own_mono hO5.out (by omega)
end Tr
end
section
namespace Fl
open Ieee
def B:Nat:=4503599627370496
def S:Nat:=9223372036854775808
def I:Nat:=9218868437227405312
def nanU:Nat:=9221120237041090560
theorem B_pow:B = 2 ^ 52:=by decide
theorem binade_eq:double.binade = B:=by decide
theorem sign_eq:double.signWeight = S:=by decide
theorem inf_eq:double.infRung = I:=by decide
theorem least_eq:double.leastPlace = -1074:=by decide
def mg (r:Nat):Nat:=if r < B then r else B + r % B
def pl (r:Nat):Nat:=if r < B then 0 else r / B - 1
def X (r:Nat):Nat:=mg r * 2 ^ pl r
def wd (s:Bool) (r:Nat):Nat:=if s then S + r else r
theorem wd_false (r:Nat):wd false r = r:=by unfold wd;rw [if_neg (by decide)]
def isNan (b:Nat):Bool:=decide (I < b % S)
def neg (b:Nat):Bool:=decide (S ≤ b)
theorem read_fin (s:Bool) (r:Nat) (h:r < I):double.read (wd s r) = .number s (mg r) (-1074 + (pl r:Int)):=by
 unfold Format.read wd mg pl;rw [sign_eq,binade_eq,inf_eq,least_eq]
 have hI:I < S:=by decide
 cases s
 ·have e1:r / S % 2 = 0:=by rw [Nat.div_eq_of_lt (by omega)]
  have e2:r % S = r:=Nat.mod_eq_of_lt (by omega);simp only [Bool.false_eq_true,if_false,e1,e2]
  by_cases hB:r < B
  ·simp [hB]
  ·simp [hB,h]
 ·have e1:(S + r) / S % 2 = 1:=by
   rw [Nat.add_div_left _ (by decide),Nat.div_eq_of_lt (by omega)]
  have e2:(S + r) % S = r:=by rw [Nat.add_mod_left,Nat.mod_eq_of_lt (by omega)]
  simp only [if_true,e1,e2]
  by_cases hB:r < B
  ·simp [hB]
  ·simp [hB,h]
theorem read_inf (s:Bool):double.read (wd s I) = .infinity s:=by cases s <;> decide +kernel
theorem read_nan (b:Nat) (_hb:b < 2 * S) (h:isNan b = true):∃ s t,double.read b = .nan s t:=by
 unfold isNan at h;have h':=of_decide_eq_true h;unfold Format.read;rw [sign_eq,binade_eq,inf_eq]
 have hBI:B ≤ I:=by decide
 simp only;rw [if_neg (by omega),if_neg (by omega),if_neg (by omega)];exact ⟨_,_,rfl⟩
theorem wd_of (b:Nat) (hb:b < 2 * S):b = wd (neg b) (b % S):=by
 unfold wd neg
 by_cases h:S ≤ b
 ·rw [if_pos (by simpa using h)]
  have:b % S = b - S:=by rw [Nat.mod_eq_sub_mod h,Nat.mod_eq_of_lt (by omega)]
  omega
 ·rw [if_neg (by simpa using h),Nat.mod_eq_of_lt (by omega)]
theorem mg_lt (r:Nat):mg r < 2 * B:=by
 unfold mg
 have:0 < B:=by decide
 have:=Nat.mod_lt r this
 split <;> omega
theorem mg_pos {r:Nat} (h:0 < r):0 < mg r:=by
 unfold mg
 have:0 < B:=by decide
 split <;> omega
theorem rung_eq (r:Nat):r = pl r * B + mg r:=by
 unfold pl mg
 by_cases h:r < B
 ·rw [if_pos h,if_pos h];omega
 ·rw [if_neg h,if_neg h]
  have h1:=Nat.div_add_mod r B;have h2:1 ≤ r / B:=(Nat.one_le_div_iff (by decide)).2 (by omega)
  have h3:(r / B - 1) * B + B = B * (r / B):=by
   rw [← Nat.succ_mul,Nat.mul_comm]
   congr 1
   omega
  omega
theorem cut_exact (s:Bool) (n j:Nat):Toward.even.cut s (n * 2 ^ j) j = n:=by
 unfold Toward.cut
 by_cases h0:n = 0
 ·subst h0
  simp
 ·have hl:j ≤ (n * 2 ^ j).log2 + 2:=by
   have h1:2 ^ j ≤ n * 2 ^ j:=Nat.le_mul_of_pos_left _ (by omega);have h2:=(Nat.le_log2 (n:=n * 2 ^ j) (k:=j) (by have:=Nat.two_pow_pos j;have:0 < n * 2 ^ j:=Nat.mul_pos (by omega) this;omega)).2 h1;omega
  simp only [Nat.min_eq_left hl,Nat.one_shiftLeft];rw [Nat.mul_div_cancel _ (Nat.two_pow_pos j),Nat.mul_mod_left];have hp:=Nat.two_pow_pos j;simp
theorem log2_mul_pow (n j:Nat) (h:0 < n):(n * 2 ^ j).log2 = n.log2 + j:=by
 have hp:=Nat.two_pow_pos j;rw [Nat.log2_eq_iff (by have:=Nat.mul_pos h hp;omega)];refine ⟨?_,?_⟩
 ·rw [Nat.pow_add]
  exact Nat.mul_le_mul_right _ (Nat.log2_self_le (by omega))
 ·rw [show n.log2 + j + 1 = (n.log2 + 1) + j from by omega,Nat.pow_add]
  exact Nat.mul_lt_mul_of_pos_right Nat.lt_log2_self hp
theorem log2_mg (r:Nat) (h:0 < r):max (-1074 + (pl r:Int) + ((mg r).log2:Int) - 52) (-1074) = -1074 + (pl r:Int):=by
 have hm:=mg_lt r;have hp:=mg_pos h;have h1:(mg r).log2 < 53:=(Nat.log2_lt (by omega)).2 (by rw [show (2:Nat) ^ 53 = 2 * B from by decide];exact hm)
 by_cases hB:r < B
 ·have:pl r = 0:=by unfold pl;rw [if_pos hB]
  rw [this];have:(mg r).log2 < 52:=(Nat.log2_lt (by omega)).2 (by rw [show (2:Nat) ^ 52 = B from by decide];unfold mg;rw [if_pos hB];exact hB);omega
 ·have:52 ≤ (mg r).log2:=(Nat.le_log2 (by omega)).2 (by rw [show (2:Nat) ^ 52 = B from by decide];unfold mg;rw [if_neg hB];omega)
  omega
theorem near_down (s:Bool) (r j:Nat):double.nearest s (mg r * 2 ^ j) (-1074 + (pl r:Int) - (j:Int)) = wd s (min r I):=by
 by_cases h0:r = 0
 ·subst h0
  unfold Format.nearest
  have:mg 0 * 2 ^ j = 0:=by
   have e:mg 0 = 0:=by decide
   rw [e,Nat.zero_mul]
  rw [if_pos this];unfold Format.word wd;rw [sign_eq,Nat.zero_min]
 ·have hp:0 < r:=by omega
  have hm:=mg_pos hp;unfold Format.nearest;rw [if_neg (by have:=Nat.two_pow_pos j;have:0 < mg r * 2 ^ j:=Nat.mul_pos hm this;omega)];simp only;rw [log2_mul_pow _ _ hm,least_eq,binade_eq,inf_eq,show double.fractionBits = 52 from rfl];have hl:=log2_mg r hp
  have e:max (-1074 + (pl r:Int) - (j:Int) + (((mg r).log2 + j:Nat):Int) - ((52:Nat):Int)) (-1074) = -1074 + (pl r:Int):=by omega
  rw [e]
  have e1:(-1074 + (pl r:Int) - (j:Int) - (-1074 + (pl r:Int))).toNat = 0:=by omega
  have e2:((-1074 + (pl r:Int)) - (-1074 + (pl r:Int) - (j:Int))).toNat = j:=by omega
  have e3:(-1074 + (pl r:Int) - -1074).toNat = pl r:=by omega
  rw [e1,e2,e3,Nat.shiftLeft_zero,cut_exact,← rung_eq];unfold Format.word wd;rw [sign_eq]
theorem near_up (s:Bool) (r j n:Nat) (hn:n * 2 ^ j = mg r):double.nearest s n (-1074 + (pl r:Int) + (j:Int)) = wd s (min r I):=by
 by_cases h0:r = 0
 ·subst h0
  unfold Format.nearest
  have:n = 0:=by
   have e:mg 0 = 0:=by decide
   rw [e] at hn
   rcases Nat.mul_eq_zero.1 hn with h | h
   ·exact h
   ·have:=Nat.two_pow_pos j;omega
  rw [if_pos this];unfold Format.word wd;rw [sign_eq,Nat.zero_min]
 ·have hp:0 < r:=by omega
  have hm:=mg_pos hp
  have hn0:0 < n:=by
   rcases Nat.eq_zero_or_pos n with h | h
   ·subst h;omega
   ·exact h
  unfold Format.nearest;rw [if_neg (by omega)];simp only;rw [least_eq,binade_eq,inf_eq,show double.fractionBits = 52 from rfl];have hl:=log2_mg r hp;rw [← hn,log2_mul_pow _ _ hn0] at hl
  have e:max (-1074 + (pl r:Int) + (j:Int) + (n.log2:Int) - ((52:Nat):Int)) (-1074) = -1074 + (pl r:Int):=by omega
  rw [e]
  have e1:(-1074 + (pl r:Int) + (j:Int) - (-1074 + (pl r:Int))).toNat = j:=by omega
  have e2:((-1074 + (pl r:Int)) - (-1074 + (pl r:Int) + (j:Int))).toNat = 0:=by omega
  have e3:(-1074 + (pl r:Int) - -1074).toNat = pl r:=by omega
  have e4:Toward.even.cut s (mg r) 0 = mg r:=by have:=cut_exact s (mg r) 0;rwa [Nat.pow_zero,Nat.mul_one] at this
  rw [e1,e2,e3,Nat.shiftLeft_eq,hn,e4,← rung_eq];unfold Format.word wd;rw [sign_eq]
def R (m j:Nat):Nat:=if m = 0 then 0 else if m.log2 + j < 52 then m * 2 ^ j else (m.log2 + j - 52) * B + m * 2 ^ (52 - m.log2)
theorem norm_range {m:Nat} (h0:0 < m) (h:m < 2 * B):B ≤ m * 2 ^ (52 - m.log2) ∧ m * 2 ^ (52 - m.log2) < 2 * B ∧ m.log2 ≤ 52:=by
 have h1:m.log2 < 53:=(Nat.log2_lt (by omega)).2 (by rw [show (2:Nat) ^ 53 = 2 * B from by decide];exact h);have h2:2 ^ m.log2 ≤ m:=Nat.log2_self_le (by omega);have h3:m < 2 ^ (m.log2 + 1):=Nat.lt_log2_self
 have e1:(2:Nat) ^ m.log2 * 2 ^ (52 - m.log2) = B:=by rw [← Nat.pow_add,show m.log2 + (52 - m.log2) = 52 from by omega];decide
 have e2:(2:Nat) ^ (m.log2 + 1) * 2 ^ (52 - m.log2) = 2 * B:=by rw [← Nat.pow_add,show m.log2 + 1 + (52 - m.log2) = 53 from by omega];decide
 refine ⟨?_,?_,by omega⟩
 ·rw [← e1];exact Nat.mul_le_mul_right _ h2
 ·rw [← e2];exact Nat.mul_lt_mul_of_pos_right h3 (Nat.two_pow_pos _)
theorem R_read {m j:Nat} (hm:m < 2 * B) (h0:0 < m):∃ c:Nat,mg (R m j) = m * 2 ^ c ∧ (pl (R m j):Int) = (j:Int) - (c:Int):=by
 obtain ⟨n1,n2,n3⟩:=norm_range h0 hm
 have hB:0 < B:=by decide
 unfold R;rw [if_neg (by omega)]
 by_cases hc:m.log2 + j < 52
 ·rw [if_pos hc]
  have hlt:m * 2 ^ j < B:=by
   have h3:m < 2 ^ (m.log2 + 1):=Nat.lt_log2_self
   calc m * 2 ^ j < 2 ^ (m.log2 + 1) * 2 ^ j:=Nat.mul_lt_mul_of_pos_right h3 (Nat.two_pow_pos _)
    _ = 2 ^ (m.log2 + 1 + j):=(Nat.pow_add ..).symm
    _ ≤ 2 ^ 52:=Nat.pow_le_pow_right (by decide) (by omega)
    _ = B:=by decide
  refine ⟨j,?_,?_⟩
  ·unfold mg;rw [if_pos hlt]
  ·unfold pl;rw [if_pos hlt];omega
 ·rw [if_neg hc]
  refine ⟨52 - m.log2,?_⟩
  generalize m * 2 ^ (52 - m.log2) = K at *;obtain ⟨E,hE⟩:∃ E,m.log2 + j - 52 = E:=⟨_,rfl⟩;rw [hE]
  have hge:¬ E * B + K < B:=by have:=Nat.zero_le (E * B);omega
  have hK:E * B + K = B * (E + 1) + (K - B):=by
   have:B * (E + 1) = E * B + B:=by rw [Nat.mul_succ,Nat.mul_comm]
   omega
  have hd:(E * B + K) / B = E + 1:=by rw [hK,Nat.mul_add_div hB,Nat.div_eq_of_lt (by omega)]
  have hmod:(E * B + K) % B = K - B:=by rw [hK,Nat.mul_add_mod,Nat.mod_eq_of_lt (by omega)]
  unfold mg pl;rw [if_neg hge,if_neg hge,hd,hmod];omega
theorem near_R (s:Bool) {m j:Nat} (a:Nat) (hm:m < 2 * B) (p:Int) (hp:p = (j:Int) - 1074 - (a:Int)):double.nearest s (m * 2 ^ a) p = wd s (min (R m j) I):=by
 subst hp
 by_cases h0:m = 0
 ·subst h0
  unfold Format.nearest R;rw [Nat.zero_mul,if_pos rfl,if_pos rfl];unfold Format.word wd;rw [sign_eq,Nat.zero_min]
 ·obtain ⟨c,e1,e2⟩:=R_read (j:=j) hm (by omega)
  by_cases ha:c ≤ a
  ·have:=near_down s (R m j) (a - c)
   rw [e1,Nat.mul_assoc,← Nat.pow_add,show c + (a - c) = a from by omega] at this;rw [← this]
   congr 1
   omega
  ·have:=near_up s (R m j) (c - a) (m * 2 ^ a) (by rw [e1,Nat.mul_assoc,← Nat.pow_add,show a + (c - a) = c from by omega])
   rw [← this]
   congr 1
   omega
theorem mg_zero:mg 0 = 0:=by decide
theorem R_zero (j:Nat):R 0 j = 0:=by unfold R;rw [if_pos rfl]
theorem X_R {m j:Nat} (hm:m < 2 * B):X (R m j) = m * 2 ^ j:=by
 by_cases h0:m = 0
 ·subst h0
  rw [R_zero,Nat.zero_mul];unfold X;rw [mg_zero,Nat.zero_mul]
 ·obtain ⟨c,e1,e2⟩:=R_read (j:=j) hm (by omega)
  unfold X;rw [e1,Nat.mul_assoc,← Nat.pow_add]
  congr 2
  omega
theorem pl_mono {r r':Nat} (h:r ≤ r'):pl r ≤ pl r':=by
 unfold pl;have:=Nat.div_le_div_right (c:=B) h
 split <;> split <;> omega
theorem X_lt {r r':Nat} (h:r < r'):X r < X r':=by
 have hp:=pl_mono (Nat.le_of_lt h);have e:=rung_eq r;have e':=rung_eq r';unfold X
 by_cases hpl:pl r = pl r'
 ·rw [← hpl] at e' ⊢
  exact Nat.mul_lt_mul_of_pos_right (by omega) (Nat.two_pow_pos _)
 ·have h1:=mg_lt r
  have h2:B ≤ mg r':=by
   unfold mg
   split
   ·rename_i hlt
    have:pl r' = 0:=by unfold pl;rw [if_pos hlt]
    omega
   ·omega
  calc mg r * 2 ^ pl r < 2 * B * 2 ^ pl r:=Nat.mul_lt_mul_of_pos_right h1 (Nat.two_pow_pos _)
   _ = B * 2 ^ (pl r + 1):=by rw [Nat.pow_succ,Nat.mul_comm 2 B,Nat.mul_assoc,Nat.mul_comm 2]
   _ ≤ B * 2 ^ pl r':=Nat.mul_le_mul_left _ (Nat.pow_le_pow_right (by decide) (by omega))
   _ ≤ mg r' * 2 ^ pl r':=Nat.mul_le_mul_right _ h2
theorem X_le_iff {r r':Nat}:X r ≤ X r' ↔ r ≤ r':=by
 constructor
 ·intro h
  rcases Nat.lt_or_ge r' r with h' | h'
  ·have:=X_lt h';omega
  ·exact h'
 ·intro h
  rcases Nat.lt_or_ge r r' with h' | h'
  ·have:=X_lt h';omega
  ·have:r = r':=by omega
   rw [this];exact Nat.le_refl _
theorem R_le {m j n i:Nat} (hm:m < 2 * B) (hn:n < 2 * B):R m j ≤ R n i ↔ m * 2 ^ j ≤ n * 2 ^ i:=by
 rw [← X_le_iff,X_R hm,X_R hn]
theorem R_self (r:Nat):R (mg r) (pl r) = r:=by
 have h:=X_R (m:=mg r) (j:=pl r) (mg_lt r);have h1:X (R (mg r) (pl r)) = X r:=h;have a:=X_le_iff.1 (Nat.le_of_eq h1);have b:=X_le_iff.1 (Nat.le_of_eq h1.symm);omega
theorem R_move {m a j:Nat} (h:m * 2 ^ a < 2 * B):R (m * 2 ^ a) j = R m (a + j):=by
 have hm:m < 2 * B:=Nat.lt_of_le_of_lt (Nat.le_mul_of_pos_right _ (Nat.two_pow_pos a)) h
 have e:m * 2 ^ a * 2 ^ j = m * 2 ^ (a + j):=by rw [Nat.mul_assoc,← Nat.pow_add]
 have a1:=(R_le (j:=j) (i:=a + j) h hm).2 (Nat.le_of_eq e);have a2:=(R_le (j:=a + j) (i:=j) hm h).2 (Nat.le_of_eq e.symm);omega
theorem one_lt:1 < 2 * B:=by decide
theorem pow_le_R {m j i:Nat} (h0:0 < m) (hm:m < 2 * B):R 1 i ≤ R m j ↔ i ≤ m.log2 + j:=by
 rw [R_le one_lt hm,Nat.one_mul,← log2_mul_pow _ _ h0,Nat.le_log2 (by have:=Nat.two_pow_pos j;have:=Nat.mul_pos h0 this;omega)]
theorem R_fin {m j:Nat} (h0:0 < m) (hm:m < 2 * B) (h:m.log2 + j < 2098):R m j < I:=by
 have e:R 1 2098 = I:=by decide +kernel
 have:=(pow_le_R (i:=2098) (j:=j) h0 hm);rw [e] at this;omega
theorem R_inf {m j:Nat} (h0:0 < m) (hm:m < 2 * B) (h:2098 ≤ m.log2 + j):I ≤ R m j:=by
 have e:R 1 2098 = I:=by decide +kernel
 rw [← e];exact (pow_le_R h0 hm).2 h
theorem log2_of_fin {r:Nat} (h0:0 < r) (h:r < I):(mg r).log2 + pl r < 2098:=by
 have:=R_inf (m:=mg r) (j:=pl r) (mg_pos h0) (mg_lt r);rw [R_self] at this;omega
theorem mul_pow (s:Bool) {m j i:Nat} (hm:m < 2 * B) (hf:R m j < I) (hi:R 1 i < I) (h:1074 ≤ j + i) :
  double.mul (wd s (R m j)) (R 1 i) = some (wd s (min (R m (j + i - 1074)) I)):=by
 unfold Format.mul;have r1:=read_fin s (R m j) hf;have r2:=read_fin false (R 1 i) hi;rw [show wd false (R 1 i) = R 1 i from rfl] at r2;rw [r1,r2]
 show some (double.nearest (s ^^ false) (mg (R m j) * mg (R 1 i)) (-1074 + (pl (R m j):Int) + (-1074 + (pl (R 1 i):Int)))) = _
 rw [Bool.xor_false];obtain ⟨c2,e3,e4⟩:=R_read (j:=i) one_lt (by decide)
 by_cases h0:m = 0
 ·subst h0
  rw [R_zero,mg_zero,Nat.zero_mul,R_zero];have:=near_R s (m:=0) (j:=0) 0 (by decide) (-1074) rfl;rw [Nat.zero_mul,R_zero] at this
  have u:∀ p q,double.nearest s 0 p = double.nearest s 0 q:=by intro p q;unfold Format.nearest;rw [if_pos rfl,if_pos rfl]
  rw [u _ (-1074),this]
 ·obtain ⟨c1,e1,e2⟩:=R_read (j:=j) hm (by omega)
  rw [e1,e3,Nat.one_mul,Nat.mul_assoc,← Nat.pow_add];rw [near_R s (j:=j + i - 1074) (c1 + c2) hm _ (by omega)]
def sg (s:Bool) (r:Nat):Int:=if s then -(r:Int) else r
theorem cmp_scale (a b:Int) (k:Nat):compare (a * 2 ^ k) (b * 2 ^ k) = compare a b:=by
 have hp:(0:Int) < 2 ^ k:=Int.pow_pos (by decide)
 rcases Int.lt_trichotomy a b with h | h | h
 ·rw [Int.compare_eq_lt.2 h,Int.compare_eq_lt.2 (Int.mul_lt_mul_of_pos_right h hp)]
 ·rw [h];simp
 ·rw [Int.compare_eq_gt.2 h,Int.compare_eq_gt.2 (Int.mul_lt_mul_of_pos_right h hp)]
theorem signed_eq (s:Bool) (m k:Nat):signed s m k = (if s then -1 else 1) * ((m * 2 ^ k:Nat):Int):=by
 unfold signed;rw [Nat.shiftLeft_eq]
 cases s <;> simp
theorem cmp_X (s t:Bool) (r q:Nat):compare ((if s then -1 else 1) * (X r:Int)) ((if t then -1 else 1) * (X q:Int)) = compare (sg s r) (sg t q):=by
 have z:X 0 = 0:=by unfold X;rw [mg_zero,Nat.zero_mul]
 have h1:X r = 0 ↔ r = 0:=by
  constructor
  ·intro h
   rcases Nat.eq_zero_or_pos r with h' | h'
   ·exact h'
   ·have:=X_lt h';omega
  ·intro h;rw [h,z]
 have h2:X q = 0 ↔ q = 0:=by
  constructor
  ·intro h
   rcases Nat.eq_zero_or_pos q with h' | h'
   ·exact h'
   ·have:=X_lt h';omega
  ·intro h;rw [h,z]
 have h3:=@X_le_iff r q;have h4:=@X_le_iff q r;generalize X r = a at *;generalize X q = b at *;unfold sg
 have key:∀ x y x' y':Int,(x < y ↔ x' < y') → (y < x ↔ y' < x') → compare x y = compare x' y':=by
  intro x y x' y' e1 e2
  rcases Int.lt_trichotomy x y with h | h | h
  ·rw [Int.compare_eq_lt.2 h,Int.compare_eq_lt.2 (e1.1 h)]
  ·have:x' = y':=by
    rcases Int.lt_trichotomy x' y' with g | g | g
    ·have:=e1.2 g;omega
    ·exact g
    ·have:=e2.2 g;omega
   rw [Int.compare_eq_eq.2 h,Int.compare_eq_eq.2 this]
  ·rw [Int.compare_eq_gt.2 h,Int.compare_eq_gt.2 (e2.1 h)]
 cases s <;> cases t <;> simp only [Bool.false_eq_true,if_false,if_true] <;> exact key _ _ _ _ (by omega) (by omega)
theorem order_fin (s t:Bool) {r q:Nat} (hr:r < I) (hq:q < I):double.order (wd s r) (wd t q) = some (compare (sg s r) (sg t q)):=by
 unfold Format.order;rw [read_fin s r hr,read_fin t q hq]
 show some (compare (signed s (mg r) _) (signed t (mg q) _)) = _
 rw [signed_eq,signed_eq,← cmp_X]
 congr 1
 obtain ⟨b,hb⟩:∃ b:Nat,min (-1074 + (pl r:Int)) (-1074 + (pl q:Int)) = -1074 + (b:Int):=⟨min (pl r) (pl q),by omega⟩;rw [hb]
 have a1:(-1074 + (pl r:Int) - (-1074 + (b:Int))).toNat + b = pl r:=by omega
 have a2:(-1074 + (pl q:Int) - (-1074 + (b:Int))).toNat + b = pl q:=by omega
 unfold X;rw [← a1,← a2,Nat.pow_add,Nat.pow_add,← Nat.mul_assoc,← Nat.mul_assoc];rw [Int.natCast_mul _ (2 ^ b),Int.natCast_mul _ (2 ^ b),← Int.mul_assoc,← Int.mul_assoc]
 have:((2 ^ b:Nat):Int) = 2 ^ b:=by simp
 rw [this,cmp_scale,a1,a2]
theorem order_all (s t:Bool) {r q:Nat} (hr:r ≤ I) (hq:q ≤ I):double.order (wd s r) (wd t q) = some (compare (sg s r) (sg t q)):=by
 rcases Nat.lt_or_ge r I with h1 | h1
 ·rcases Nat.lt_or_ge q I with h2 | h2
  ·exact order_fin s t h1 h2
  ·have e:q = I:=by omega
   subst e;unfold Format.order;rw [read_fin s r h1,read_inf]
   show some (if t then Ordering.gt else Ordering.lt) = _
   congr 1
   symm
   have hI:0 < I:=by decide
   unfold sg
   cases t <;> cases s <;> simp only [Bool.false_eq_true,if_false,if_true] <;> first | exact Int.compare_eq_lt.2 (by omega) | exact Int.compare_eq_gt.2 (by omega)
 ·have e:r = I:=by omega
  subst e
  rcases Nat.lt_or_ge q I with h2 | h2
  ·unfold Format.order
   rw [read_fin t q h2,read_inf]
   show some (if s then Ordering.lt else Ordering.gt) = _
   congr 1
   symm
   have hI:0 < I:=by decide
   unfold sg
   cases t <;> cases s <;> simp only [Bool.false_eq_true,if_false,if_true] <;> first | exact Int.compare_eq_lt.2 (by omega) | exact Int.compare_eq_gt.2 (by omega)
  ·have e:q = I:=by omega
   subst e;unfold Format.order;rw [read_inf,read_inf]
   show some (compare t.toNat s.toNat) = _
   congr 1
   have hI:0 < I:=by decide
   unfold sg
   cases t <;> cases s <;> simp only [Bool.false_eq_true,if_false,if_true,Bool.toNat_false,Bool.toNat_true]
   ·simp
   ·rw [Int.compare_eq_lt.2 (by omega)];rfl
   ·rw [Int.compare_eq_gt.2 (by omega)];rfl
   ·simp
theorem order_nan_left (a b:Nat) (ha:a < 2 * S) (h:isNan a = true):double.order a b = none:=by
 obtain ⟨s,t,e⟩:=read_nan a ha h;unfold Format.order;rw [e]
 rfl
theorem of_whole {m:Nat} (hm:m < 2 * B) (h:R m 1074 < I):double.nearest false m 0 = R m 1074:=by
 have:=near_R false (m:=m) (j:=1074) 0 hm 0 rfl;rw [Nat.pow_zero,Nat.mul_one,Nat.min_eq_left (Nat.le_of_lt h)] at this;exact this
theorem to_whole {m:Nat} (hm:m < 2 * B) (h:R m 1074 < I):(double.read (R m 1074)).toInt .zero = some (m:Int):=by
 have r1:=read_fin false (R m 1074) h;rw [show wd false (R m 1074) = R m 1074 from rfl] at r1;rw [r1]
 have cz:∀ n j:Nat,Toward.zero.cut false (n * 2 ^ j) j = n:=by
  intro n j;unfold Toward.cut
  by_cases h0:n = 0
  ·subst h0;simp
  ·have hl:j ≤ (n * 2 ^ j).log2 + 2:=by rw [log2_mul_pow _ _ (by omega)];omega
   simp only [Nat.min_eq_left hl,Nat.one_shiftLeft];rw [Nat.mul_div_cancel _ (Nat.two_pow_pos j)];simp
 show some (signed false (Toward.zero.cut false (mg (R m 1074) <<< (-1074 + (pl (R m 1074):Int)).toNat) (-(-1074 + (pl (R m 1074):Int))).toNat) 0) = _
 have fin:∀ k:Nat,signed false k 0 = (k:Int):=by intro k;rw [signed_eq];simp
 rw [fin]
 congr 2
 by_cases h0:m = 0
 ·subst h0
  rw [R_zero,mg_zero]
  have cz0:∀ j:Nat,Toward.zero.cut false 0 j = 0:=fun j => by have:=cz 0 j;rwa [Nat.zero_mul] at this
  rw [Nat.zero_shiftLeft];exact cz0 _
 ·obtain ⟨c,e1,e2⟩:=R_read (j:=1074) hm (by omega)
  rw [e1,show (-1074 + (pl (R m 1074):Int)).toNat = 0 from by omega,show (-(-1074 + (pl (R m 1074):Int))).toNat = c from by omega,Nat.shiftLeft_zero,cz]
theorem sub_one {m:Nat} (h1:B ≤ m) (h2:m < 2 * B):double.sub (R m 1022) (R 1 1074) = some (R (m - B) 1022):=by
 have hB:0 < B:=by decide
 have hlog:m.log2 = 52:=by
  have a:m.log2 < 53:=(Nat.log2_lt (by omega)).2 (by rw [show (2:Nat) ^ 53 = 2 * B from by decide];exact h2);have b:52 ≤ m.log2:=(Nat.le_log2 (by omega)).2 (by rw [show (2:Nat) ^ 52 = B from by decide];exact h1);omega
 have f1:R m 1022 < I:=R_fin (by omega) h2 (by omega)
 have f2:R 1 1074 < I:=by decide +kernel
 unfold Format.sub;have r1:=read_fin false _ f1;have r2:=read_fin false _ f2;rw [show wd false (R m 1022) = R m 1022 from rfl] at r1;rw [show wd false (R 1 1074) = R 1 1074 from rfl] at r2;rw [r1,r2]
 have em:mg (R m 1022) = m ∧ pl (R m 1022) = 1022:=by
  obtain ⟨c,e1,e2⟩:=R_read (j:=1022) h2 (by omega);have hl:=mg_lt (R m 1022)
  have:c = 0:=by
   rcases Nat.eq_zero_or_pos c with h | h
   ·exact h
   ·exfalso
    have:m * 2 ≤ m * 2 ^ c:=Nat.mul_le_mul_left _ (by
     calc 2 = 2 ^ 1:=rfl
      _ ≤ 2 ^ c:=Nat.pow_le_pow_right (by decide) h)
    omega
  subst this;rw [e1,Nat.pow_zero,Nat.mul_one];exact ⟨rfl,by omega⟩
 have e1:mg (R 1 1074) = B ∧ pl (R 1 1074) = 1022:=by decide +kernel
 rw [em.1,em.2,e1.1,e1.2]
 show some (double.nearest _ _ _) = _
 have d:signed false m (-1074 + ((1022:Nat):Int) - min (-1074 + ((1022:Nat):Int)) (-1074 + ((1022:Nat):Int))).toNat + signed true B (-1074 + ((1022:Nat):Int) - min (-1074 + ((1022:Nat):Int)) (-1074 + ((1022:Nat):Int))).toNat = ((m - B:Nat):Int):=by
  rw [signed_eq,signed_eq];simp;omega
 have dn:(!false) = true:=rfl;rw [dn,d,Int.natAbs_natCast]
 have e3:(if ((m - B:Nat):Int) = 0 then false && true else decide (((m - B:Nat):Int) < 0)) = false:=by
  split
  ·rfl
  ·exact decide_eq_false (by omega)
 rw [e3];have:=near_R false (m:=m - B) (j:=1022) 0 (by omega) (min (-1074 + ((1022:Nat):Int)) (-1074 + ((1022:Nat):Int))) (by omega);rw [Nat.pow_zero,Nat.mul_one] at this;rw [this]
 have hf:R (m - B) 1022 < I:=by
  by_cases h0:m - B = 0
  ·rw [h0,R_zero];decide
  ·refine R_fin (by omega) (by omega) ?_
   have:(m - B).log2 < 52:=(Nat.log2_lt h0).2 (by rw [show (2:Nat) ^ 52 = B from by decide];omega);omega
 rw [Nat.min_eq_left (Nat.le_of_lt hf),wd_false]
end Fl
end
section
open Go.RowKit
namespace Fl
theorem fo_num (s t:Bool) {r q:Nat} (hr:r ≤ I) (hq:q ≤ I):FloatKind.f64.format.order (wd s r) (wd t q) = some (compare (sg s r) (sg t q)):=order_all s t hr hq
theorem run_mul {a b r:Nat} (h:Ieee.double.mul a b = some r) (w:World):(binOp .mul 47 (.float .f64 a) (.float .f64 b)).run Tryz.prog w = .ok (.float .f64 r) w:=
 run_float_arith w .mul _ .f64 a b r h
theorem run_div {a b r:Nat} (h:Ieee.double.div a b = some r) (w:World):(binOp .quo 47 (.float .f64 a) (.float .f64 b)).run Tryz.prog w = .ok (.float .f64 r) w:=
 run_float_arith w .quo _ .f64 a b r h
theorem run_sub {a b r:Nat} (h:Ieee.double.sub a b = some r) (w:World):(binOp .sub 47 (.float .f64 a) (.float .f64 b)).run Tryz.prog w = .ok (.float .f64 r) w:=
 run_float_arith w .sub _ .f64 a b r h
theorem zero_wd:(0:Nat) = wd false 0:=by decide
theorem sg_zero (s:Bool):sg s 0 = 0:=by cases s <;> rfl
theorem fo_zero (s:Bool):FloatKind.f64.format.order (wd s 0) 0 = some .eq:=by
 have:=fo_num s false (r:=0) (q:=0) (by decide) (by decide);rw [← zero_wd] at this;rw [this,sg_zero,sg_zero]
 rfl
theorem fo_neg {r:Nat} (h0:0 < r) (hr:r ≤ I):FloatKind.f64.format.order (wd true r) 0 = some .lt:=by
 have:=fo_num true false hr (q:=0) (by decide);rw [← zero_wd] at this;rw [this,sg_zero,Int.compare_eq_lt.2 (by unfold sg;simp;omega)]
theorem fo_pos {r:Nat} (h0:0 < r) (hr:r ≤ I):FloatKind.f64.format.order (wd false r) 0 = some .gt:=by
 have:=fo_num false false hr (q:=0) (by decide);rw [← zero_wd] at this;rw [this,sg_zero,Int.compare_eq_gt.2 (by unfold sg;simp;omega)]
theorem minus_num (s:Bool) (r:Nat) (w:World) (hr:r ≤ I) :
  Calls Tryz.prog 177 #[.float .f64 (wd s r)] w fun e w' => e = .returned (.bool s) ∧ w = w':=by
 rcases Nat.eq_zero_or_pos r with h0 | h0
 ·subst h0
  have ho:=fo_zero s
  cases s
  ·have hd:=run_div (a:=4607182418800017408) (b:=wd false 0) (r:=wd false I) (by decide +kernel)
   have hi:=fo_pos (r:=I) (by decide) (Nat.le_refl _);generalize wd false 0 = b at *;generalize wd false I = c at *;go_enter Tryz.func177,Tryz.ntmps177;go_wp2_with fail;go_ret;exact ⟨rfl,rfl⟩
  ·have hd:=run_div (a:=4607182418800017408) (b:=wd true 0) (r:=wd true I) (by decide +kernel)
   have hi:=fo_neg (r:=I) (by decide) (Nat.le_refl _);generalize wd true 0 = b at *;generalize wd true I = c at *;go_enter Tryz.func177,Tryz.ntmps177;go_wp2_with fail;go_ret;exact ⟨rfl,rfl⟩
 ·cases s
  ·have ho:=fo_pos h0 hr
   generalize wd false r = b at *;go_enter Tryz.func177,Tryz.ntmps177;go_wp2_with fail;go_ret;exact ⟨rfl,rfl⟩
  ·have ho:=fo_neg h0 hr
   generalize wd true r = b at *;go_enter Tryz.func177,Tryz.ntmps177;go_wp2_with fail;go_ret;exact ⟨rfl,rfl⟩
theorem minus_nan (b:Nat) (w:World) (hb:b < 2 * S) (h:isNan b = true) :
  Calls Tryz.prog 177 #[.float .f64 b] w fun e w' => e = .returned (.bool false) ∧ w = w':=by
 have ho:FloatKind.f64.format.order b 0 = none:=order_nan_left b 0 hb h;go_enter Tryz.func177,Tryz.ntmps177;go_wp2_with fail;go_ret;exact ⟨rfl,rfl⟩
def pn (k:Nat):Nat:=2 ^ (9 - k)
def pup (k:Nat):Nat:=R 1 (1074 + pn k)
def plow (k:Nat):Nat:=R 1 (1074 - pn k)
def prow (k:Nat):Array Value:=#[.int .i64 (pn k),.float .f64 (pup k),.float .f64 (plow k)]
def pows:Array Value:=prow 0 ++ prow 1 ++ prow 2 ++ prow 3 ++ prow 4 ++ prow 5 ++ prow 6 ++ prow 7 ++ prow 8 ++ prow 9
theorem index_pow0 (w:World):(Instr.index 307 (.agg pows) (.int .i64 ((0:Nat):Int))).run Tryz.prog w = .ok (.agg (prow 0)) w:=by kernel_rfl
theorem index_pow1 (w:World):(Instr.index 307 (.agg pows) (.int .i64 ((1:Nat):Int))).run Tryz.prog w = .ok (.agg (prow 1)) w:=by kernel_rfl
theorem index_pow2 (w:World):(Instr.index 307 (.agg pows) (.int .i64 ((2:Nat):Int))).run Tryz.prog w = .ok (.agg (prow 2)) w:=by kernel_rfl
theorem index_pow3 (w:World):(Instr.index 307 (.agg pows) (.int .i64 ((3:Nat):Int))).run Tryz.prog w = .ok (.agg (prow 3)) w:=by kernel_rfl
theorem index_pow4 (w:World):(Instr.index 307 (.agg pows) (.int .i64 ((4:Nat):Int))).run Tryz.prog w = .ok (.agg (prow 4)) w:=by kernel_rfl
theorem index_pow5 (w:World):(Instr.index 307 (.agg pows) (.int .i64 ((5:Nat):Int))).run Tryz.prog w = .ok (.agg (prow 5)) w:=by kernel_rfl
theorem index_pow6 (w:World):(Instr.index 307 (.agg pows) (.int .i64 ((6:Nat):Int))).run Tryz.prog w = .ok (.agg (prow 6)) w:=by kernel_rfl
theorem index_pow7 (w:World):(Instr.index 307 (.agg pows) (.int .i64 ((7:Nat):Int))).run Tryz.prog w = .ok (.agg (prow 7)) w:=by kernel_rfl
theorem index_pow8 (w:World):(Instr.index 307 (.agg pows) (.int .i64 ((8:Nat):Int))).run Tryz.prog w = .ok (.agg (prow 8)) w:=by kernel_rfl
theorem index_pow9 (w:World):(Instr.index 307 (.agg pows) (.int .i64 ((9:Nat):Int))).run Tryz.prog w = .ok (.agg (prow 9)) w:=by kernel_rfl
theorem index_pow (k:Nat) (h:k < 10) (w:World):(Instr.index 307 (.agg pows) (.int .i64 (k:Int))).run Tryz.prog w = .ok (.agg (prow k)) w:=
 match k,h with
 | 0,_ => index_pow0 w
 | 1,_ => index_pow1 w
 | 2,_ => index_pow2 w
 | 3,_ => index_pow3 w
 | 4,_ => index_pow4 w
 | 5,_ => index_pow5 w
 | 6,_ => index_pow6 w
 | 7,_ => index_pow7 w
 | 8,_ => index_pow8 w
 | 9,_ => index_pow9 w
theorem size_pows:(Tryz.prog.info? 307).map (·.size) = some 30:=by kernel_rfl
theorem pows_size:pows.size = 30:=by decide +kernel
theorem pows_one:pows.all (·.oneCell') = true:=by decide +kernel
section
variable {P:Program}
theorem wpList_build_as {ops:Array Oper} {rest:List Oper} {o:Oper} {a:Act} {w:World} {Q:Exit → Act → World → Prop} (hg:o.guard = none) (t:TypeId) (parts:Array (Nat × Operand)) (ho:o.op = .build t parts)
  (cs:Array Value) (ps:List (Nat × Value)) (hp:(parts.map fun (i,x) => (i,a.eval x)).toList = ps) (hf:P.built t ps = some cs)
  (h:wpList P ops Q rest (a.put o.dst (.agg cs)) w):wpList P ops Q (o :: rest) a w:=by
 subst hp;refine wpList_build hg t parts ho (by rw [hf];rfl) ?_
 rw [hf];exact h
end
theorem built0:Tryz.prog.built 306 [(0,.int .i64 512),(1,.float .f64 6913025428013711360),(2,.float .f64 2301339409586323456)] = some (prow 0):=by kernel_rfl
theorem built1:Tryz.prog.built 306 [(0,.int .i64 256),(1,.float .f64 5760103923406864384),(2,.float .f64 3454260914193170432)] = some (prow 1):=by kernel_rfl
theorem built2:Tryz.prog.built 306 [(0,.int .i64 128),(1,.float .f64 5183643171103440896),(2,.float .f64 4030721666496593920)] = some (prow 2):=by kernel_rfl
theorem built3:Tryz.prog.built 306 [(0,.int .i64 64),(1,.float .f64 4895412794951729152),(2,.float .f64 4318952042648305664)] = some (prow 3):=by kernel_rfl
theorem built4:Tryz.prog.built 306 [(0,.int .i64 32),(1,.float .f64 4751297606875873280),(2,.float .f64 4463067230724161536)] = some (prow 4):=by kernel_rfl
theorem built5:Tryz.prog.built 306 [(0,.int .i64 16),(1,.float .f64 4679240012837945344),(2,.float .f64 4535124824762089472)] = some (prow 5):=by kernel_rfl
theorem built6:Tryz.prog.built 306 [(0,.int .i64 8),(1,.float .f64 4643211215818981376),(2,.float .f64 4571153621781053440)] = some (prow 6):=by kernel_rfl
theorem built7:Tryz.prog.built 306 [(0,.int .i64 4),(1,.float .f64 4625196817309499392),(2,.float .f64 4589168020290535424)] = some (prow 7):=by kernel_rfl
theorem built8:Tryz.prog.built 306 [(0,.int .i64 2),(1,.float .f64 4616189618054758400),(2,.float .f64 4598175219545276416)] = some (prow 8):=by kernel_rfl
theorem built9:Tryz.prog.built 306 [(0,.int .i64 1),(1,.float .f64 4611686018427387904),(2,.float .f64 4602678819172646912)] = some (prow 9):=by kernel_rfl
theorem builtAll:Tryz.prog.built 307 [(0,.agg (prow 0)),(1,.agg (prow 1)),(2,.agg (prow 2)),(3,.agg (prow 3)),(4,.agg (prow 4)),(5,.agg (prow 5)),(6,.agg (prow 6)),(7,.agg (prow 7)),(8,.agg (prow 8)),(9,.agg (prow 9))] = some pows:=by kernel_rfl
theorem powers_any (w:World) :
  Calls Tryz.prog 219 #[] w fun e w' => e = .returned (.agg pows) ∧ Below w.heap.size w w':=by
 go_enter Tryz.func219,Tryz.ntmps219
 go_upto_region 1 with (fail)
 refine wp_region_lit ?_
 refine wpList_build_as rfl 306 #[(0,Operand.const (.int .i64 512)),(1,Operand.const (.float .f64 6913025428013711360)),(2,Operand.const (.float .f64 2301339409586323456))] rfl (prow 0) [(0,.int .i64 512),(1,.float .f64 6913025428013711360),(2,.float .f64 2301339409586323456)] (by simp [Act.eval]) built0 ?_
 refine wpList_build_as rfl 306 #[(0,Operand.const (.int .i64 256)),(1,Operand.const (.float .f64 5760103923406864384)),(2,Operand.const (.float .f64 3454260914193170432))] rfl (prow 1) [(0,.int .i64 256),(1,.float .f64 5760103923406864384),(2,.float .f64 3454260914193170432)] (by simp [Act.eval]) built1 ?_
 refine wpList_build_as rfl 306 #[(0,Operand.const (.int .i64 128)),(1,Operand.const (.float .f64 5183643171103440896)),(2,Operand.const (.float .f64 4030721666496593920))] rfl (prow 2) [(0,.int .i64 128),(1,.float .f64 5183643171103440896),(2,.float .f64 4030721666496593920)] (by simp [Act.eval]) built2 ?_
 refine wpList_build_as rfl 306 #[(0,Operand.const (.int .i64 64)),(1,Operand.const (.float .f64 4895412794951729152)),(2,Operand.const (.float .f64 4318952042648305664))] rfl (prow 3) [(0,.int .i64 64),(1,.float .f64 4895412794951729152),(2,.float .f64 4318952042648305664)] (by simp [Act.eval]) built3 ?_
 refine wpList_build_as rfl 306 #[(0,Operand.const (.int .i64 32)),(1,Operand.const (.float .f64 4751297606875873280)),(2,Operand.const (.float .f64 4463067230724161536))] rfl (prow 4) [(0,.int .i64 32),(1,.float .f64 4751297606875873280),(2,.float .f64 4463067230724161536)] (by simp [Act.eval]) built4 ?_
 refine wpList_build_as rfl 306 #[(0,Operand.const (.int .i64 16)),(1,Operand.const (.float .f64 4679240012837945344)),(2,Operand.const (.float .f64 4535124824762089472))] rfl (prow 5) [(0,.int .i64 16),(1,.float .f64 4679240012837945344),(2,.float .f64 4535124824762089472)] (by simp [Act.eval]) built5 ?_
 refine wpList_build_as rfl 306 #[(0,Operand.const (.int .i64 8)),(1,Operand.const (.float .f64 4643211215818981376)),(2,Operand.const (.float .f64 4571153621781053440))] rfl (prow 6) [(0,.int .i64 8),(1,.float .f64 4643211215818981376),(2,.float .f64 4571153621781053440)] (by simp [Act.eval]) built6 ?_
 refine wpList_build_as rfl 306 #[(0,Operand.const (.int .i64 4)),(1,Operand.const (.float .f64 4625196817309499392)),(2,Operand.const (.float .f64 4589168020290535424))] rfl (prow 7) [(0,.int .i64 4),(1,.float .f64 4625196817309499392),(2,.float .f64 4589168020290535424)] (by simp [Act.eval]) built7 ?_
 refine wpList_build_as rfl 306 #[(0,Operand.const (.int .i64 2)),(1,Operand.const (.float .f64 4616189618054758400)),(2,Operand.const (.float .f64 4598175219545276416))] rfl (prow 8) [(0,.int .i64 2),(1,.float .f64 4616189618054758400),(2,.float .f64 4598175219545276416)] (by simp [Act.eval]) built8 ?_
 refine wpList_build_as rfl 306 #[(0,Operand.const (.int .i64 1)),(1,Operand.const (.float .f64 4611686018427387904)),(2,Operand.const (.float .f64 4602678819172646912))] rfl (prow 9) [(0,.int .i64 1),(1,.float .f64 4611686018427387904),(2,.float .f64 4602678819172646912)] (by simp [Act.eval]) built9 ?_
 simp only [Act.put,Array.setIfInBounds_def,List.size_toArray,List.length_cons,List.length_nil,Nat.reduceAdd,Nat.reduceLT,dite_true,List.set_toArray,List.set]
 refine wpList_build_as rfl 307 #[(0,Operand.tmp 1),(1,Operand.tmp 2),(2,Operand.tmp 3),(3,Operand.tmp 4),(4,Operand.tmp 5),(5,Operand.tmp 6),(6,Operand.tmp 7),(7,Operand.tmp 8),(8,Operand.tmp 9),(9,Operand.tmp 10)] rfl pows [(0,.agg (prow 0)),(1,.agg (prow 1)),(2,.agg (prow 2)),(3,.agg (prow 3)),(4,.agg (prow 4)),(5,.agg (prow 5)),(6,.agg (prow 6)),(7,.agg (prow 7)),(8,.agg (prow 8)),(9,.agg (prow 9))] ?_ builtAll ?_
 ·simp [Act.eval]
 refine wpList_store_row rfl 307 (.tmp 0) (.tmp 11) rfl w.heap.size pows rfl rfl 307 _ (heap_alloc_last w _) (by rw [size_pows,pows_size]) (by rw [pows_size];rfl) pows_one ?_
 rw [World.setRow_alloc_new];refine wpList_nil ?_
 go_wp2_with fail;refine bodyPost_ret (v:=.agg pows) (results_cell_row rfl _ _ w.heap.size 307 pows (0,0) _ rfl (heap_alloc_last w _) Tryz.underlying307 rfl (by rw [size_pows,pows_size])) rfl ?_
 exact ⟨rfl,(Below.refl _ _).alloc (Nat.le_refl _) _⟩
theorem run_store_float {P:Program} {w:World} (a:Addr) (k:FloatKind) (b:Nat) (m:Mode):(store a (.float k b) m).run P w = stored P w a (.float k b) m:=run_store P w a _ m rfl
attribute [local go_sem] run_store_float
def bd:Nat → Nat
 | 0 => 2048
 | k + 1 => pn k
theorem pn_le (k:Nat) (h:k < 10):1 ≤ pn k ∧ pn k ≤ 512:=by
 unfold pn;exact ⟨Nat.one_le_two_pow,by have:=Nat.pow_le_pow_right (show 0 < 2 by decide) (show 9 - k ≤ 9 by omega);omega⟩
theorem bd_le (k:Nat) (h:k ≤ 10):1 ≤ bd k ∧ bd k ≤ 2048:=by
 cases k with
 | zero => exact ⟨by decide,Nat.le_refl _⟩
 | succ k => have:=pn_le k (by omega);show 1 ≤ pn k ∧ pn k ≤ 2048;omega
theorem R_mono {m j i:Nat} (hm:m < 2 * B) (h:j ≤ i):R m j ≤ R m i:=(R_le hm hm).2 (Nat.mul_le_mul_left _ (Nat.pow_le_pow_right (by decide) h))
theorem R_one_fin {i:Nat} (h:i < 2098):R 1 i < I:=by
 have e:Nat.log2 1 = 0:=by decide
 exact R_fin (by decide) one_lt (by omega)
theorem mul_up {m j k:Nat} (hm:m < 2 * B) (hk:k < 10) (hf:R m (j + pn k) < I):Ieee.double.mul (R m j) (pup k) = some (R m (j + pn k)):=by
 have:=pn_le k hk;have:=mul_pow false (m:=m) (j:=j) (i:=1074 + pn k) hm (Nat.lt_of_le_of_lt (R_mono hm (by omega)) hf) (R_one_fin (by omega)) (by omega);rw [wd_false,show j + (1074 + pn k) - 1074 = j + pn k from by omega,Nat.min_eq_left (Nat.le_of_lt hf),wd_false] at this;exact this
theorem mul_low {m j k:Nat} (hm:m < 2 * B) (hk:k < 10) (hf:R m j < I) (hj:pn k ≤ j):Ieee.double.mul (R m j) (plow k) = some (R m (j - pn k)):=by
 have:=pn_le k hk;have:=mul_pow false (m:=m) (j:=j) (i:=1074 - pn k) hm hf (R_one_fin (by omega)) (by omega);have hf':R m (j - pn k) < I:=Nat.lt_of_le_of_lt (R_mono hm (by omega)) hf;rw [wd_false,show j + (1074 - pn k) - 1074 = j - pn k from by omega,Nat.min_eq_left (Nat.le_of_lt hf'),wd_false] at this;exact this
theorem scale_any (m j0 J:Nat) (n0:Int) (w:World) (hm:m < 2 * B) (hJ:(j0:Int) + n0 = J) (f1:R m j0 < I) (f2:R m J < I) (hn:-2048 < n0 ∧ n0 < 2048) :
  Calls Tryz.prog 237 #[.float .f64 (R m j0),.int .i64 n0] w fun e w' => e = .returned (.float .f64 (R m J)) ∧ Below w.heap.size w w':=by
 go_enter Tryz.func237,Tryz.ntmps237;go_wp2_with fail;refine (powers_any _).mono ?_
 rintro e w1 ⟨rfl,hb1⟩;have HI:=hid index_pow;generalize pows = P at *;replace hJ:=hid hJ;go_wp2_with fail
 go_loopw [0,1,8] (fun f n i wr => ∃ (k j:Nat) (x:Int),k ≤ 10 ∧ i = .int .i64 k ∧ n = .int .i64 x ∧ f = .float .f64 (R m j) ∧ (j:Int) + x ≤ J ∧ (J:Int) ≤ j + x ∧ R m j < I ∧ -(bd k:Int) < x ∧ x < bd k ∧ Below w.heap.size w wr) (fun _ _ i _ => 10 - (intOf i).toNat)
 case atStart => exact ⟨0,j0,n0,by omega,rfl,rfl,rfl,by rw [hJ.out];omega,by rw [hJ.out];omega,f1,hn.1,hn.2,hb1⟩
 case round =>
  obtain ⟨k,j,x,hk,rfl,rfl,rfl,hs1,hs2,hf,hx1,hx2,hb⟩:=hrel;have hbd:=bd_le k hk
  by_cases hk10:k < 10
  ·have hix:=HI.out k hk10
   have hpn:=pn_le k hk10;unfold prow at hix;have HU:=hid (fun j => @mul_up m j k hm hk10);have HL:=hid (fun j => @mul_low m j k hm hk10);have HB:=hid (show bd (k + 1) = pn k from rfl);generalize pn k = p at *;generalize pup k = u at *;generalize plow k = l at *;go_wp2_with fail
   go_loop [0,1] (fun f n => ∃ (j:Nat) (x:Int),n = .int .i64 x ∧ f = .float .f64 (R m j) ∧ (j:Int) + x ≤ J ∧ (J:Int) ≤ j + x ∧ R m j < I ∧ -(bd k:Int) < x ∧ x < 2048) (fun _ n => (intOf n).toNat)
   case atStart => exact ⟨j,x,rfl,rfl,hs1,hs2,hf,hx1,by omega⟩
   case round =>
    clear hs1 hs2 hf hx1 hx2;obtain ⟨j,x,rfl,rfl,hs1,hs2,hf,hx1,hx2⟩:=hrel
    by_cases hp:(p:Int) ≤ x
    ·have hf':R m (j + p) < I:=Nat.lt_of_le_of_lt (R_mono hm (by omega)) f2
     have hmul:=run_mul (HU.out j hf');go_wp2_with fail
     go_round
     case rel => exact ⟨j + p,x - p,rfl,rfl,by omega,by omega,hf',by omega,by omega⟩
     case measure => simp [intOf];omega
    ·go_wp2_with fail
     go_loop [0,1] (fun f n => ∃ (j:Nat) (x:Int),n = .int .i64 x ∧ f = .float .f64 (R m j) ∧ (j:Int) + x ≤ J ∧ (J:Int) ≤ j + x ∧ R m j < I ∧ -2048 < x ∧ x < p) (fun _ n => (-(intOf n)).toNat)
     case atStart => exact ⟨j,x,rfl,rfl,hs1,hs2,hf,by omega,by omega⟩
     case round =>
      clear hs1 hs2 hf hx1 hx2 hp;obtain ⟨j,x,rfl,rfl,hs1,hs2,hf,hx1,hx2⟩:=hrel
      by_cases hp:x ≤ -(p:Int)
      ·have hj:p ≤ j:=by omega
       have hf':R m (j - p) < I:=Nat.lt_of_le_of_lt (R_mono hm (by omega)) hf;have hmul:=run_mul (HL.out j hf hj);go_wp2_with fail
       go_round
       case rel => exact ⟨j - p,x + p,rfl,rfl,by omega,by omega,hf',by omega,by omega⟩
       case measure => simp [intOf];omega
      ·go_wp2_with fail
       go_roundw
       case rel => exact ⟨k + 1,j,x,by omega,by go_num,rfl,rfl,hs1,hs2,hf,by rw [HB.out];omega,by rw [HB.out];omega,hb.alloc hb.size _⟩
       case measure => simp [intOf];omega
  ·have hk10:k = 10:=by omega
   subst hk10
   have h1:bd 10 = 1:=by decide
   rw [h1] at hx1 hx2
   have hx0:x = 0:=by omega
   subst hx0
   obtain rfl:j = J:=by omega
   clear hJ h1;go_wp2_with fail;go_ret;exact ⟨rfl,hb⟩
theorem ord_R {a b:Nat} (ha:a ≤ I) (hb:b ≤ I):FloatKind.f64.format.order a b = some (compare (a:Int) (b:Int)):=by
 have:=fo_num false false ha hb;rw [wd_false,wd_false] at this;rw [this];unfold sg;simp
theorem ord_lt {a b:Nat} (hb:b ≤ I) (h:a < b):FloatKind.f64.format.order a b = some .lt:=by
 rw [ord_R (by omega) hb,Int.compare_eq_lt.2 (by omega)]
theorem ord_ge {a b:Nat} (ha:a ≤ I) (h:b ≤ a):FloatKind.f64.format.order a b = some .gt ∨ FloatKind.f64.format.order a b = some .eq:=by
 rw [ord_R ha (by omega)]
 rcases Nat.lt_or_ge b a with h' | h'
 ·rw [Int.compare_eq_gt.2 (by omega)];exact .inl rfl
 ·rw [Int.compare_eq_eq.2 (by omega)];exact .inr rfl
theorem pow_ge {m j i:Nat} (h0:0 < m) (hm:m < 2 * B) (hf:R m j < I) (h:i ≤ m.log2 + j):FloatKind.f64.format.order (R m j) (R 1 i) = some .gt ∨ FloatKind.f64.format.order (R m j) (R 1 i) = some .eq:=
 ord_ge (Nat.le_of_lt hf) ((pow_le_R h0 hm).2 h)
theorem pow_lt {m j i:Nat} (h0:0 < m) (hm:m < 2 * B) (hi:i < 2098) (h:m.log2 + j < i):FloatKind.f64.format.order (R m j) (R 1 i) = some .lt:=by
 refine ord_lt (Nat.le_of_lt (R_one_fin hi)) ?_
 have:=@pow_le_R m j i h0 hm;omega
def ub:Nat → Nat
 | 0 => 1024
 | k + 1 => pn k
theorem ub_two (k:Nat) (h:k < 10):ub k = 2 * pn k:=by
 cases k with
 | zero => rfl
 | succ k =>
  show pn k = 2 * pn (k + 1)
  unfold pn;rw [show 9 - k = (9 - (k + 1)) + 1 from by omega,Nat.pow_succ,Nat.mul_comm]
theorem fin_of {m j:Nat} (h0:0 < m) (hm:m < 2 * B) (h:m.log2 + j < 2098):R m j < I:=R_fin h0 hm h
theorem split_any (m j0:Nat) (w:World) (h0:0 < m) (hm:m < 2 * B) (hf0:m.log2 + j0 < 2098) :
  Calls Tryz.prog 178 #[.float .f64 (R m j0)] w fun e w' => e = .returned (.tuple #[.float .f64 (R m (1074 - m.log2)),.int .i64 ((m.log2:Int) + j0 - 1074)]) ∧ Below w.heap.size w w':=by
 have hL:m.log2 ≤ 52:=(norm_range h0 hm).2.2;go_enter Tryz.func178,Tryz.ntmps178;go_wp2_with fail;refine (powers_any _).mono ?_
 rintro e w1 ⟨rfl,hb1⟩;have HI:=hid index_pow;generalize pows = P at *;go_wp2_with fail
 go_loopw [0,4,8] (fun f n i wr => ∃ (k j:Nat),k ≤ 10 ∧ i = .int .i64 k ∧ n = .int .i64 ((j0:Int) - j) ∧ f = .float .f64 (R m j) ∧ m.log2 + j < 1074 + ub k ∧ Below w.heap.size w wr) (fun _ _ i _ => 10 - (intOf i).toNat)
 case atStart => exact ⟨0,j0,by omega,rfl,by congr 1;omega,rfl,by show _ < 1074 + 1024;omega,hb1⟩
 case round =>
  obtain ⟨k,j,hk,rfl,rfl,rfl,ht,hb⟩:=hrel
  by_cases hk10:k < 10
  ·have hix:=HI.out k hk10
   have hpn:=pn_le k hk10;have hub:=ub_two k hk10;rw [hub] at ht;clear hub;unfold prow at hix;have HU:=hid (fun j => @mul_up m j k hm hk10);have HL:=hid (fun j => @mul_low m j k hm hk10);have HB:=hid (show ub (k + 1) = pn k from rfl);have HA:=hid (fun j hf h => @pow_ge m j (1074 + pn k) h0 hm hf h);have HC:=hid (fun j h => @pow_lt m j (1074 + pn k) h0 hm (by omega) h);have HD:=hid (fun j hf h => @pow_ge m j (1074 - pn k) h0 hm hf h);have HE:=hid (fun j h => @pow_lt m j (1074 - pn k) h0 hm (by omega) h);have hf:R m j < I:=fin_of h0 hm (by omega)
   change Hid (∀ j hf h,FloatKind.f64.format.order (R m j) (pup k) = some .gt ∨ FloatKind.f64.format.order (R m j) (pup k) = some .eq) at HA
   change Hid (∀ j h,FloatKind.f64.format.order (R m j) (pup k) = some .lt) at HC
   change Hid (∀ j hf h,FloatKind.f64.format.order (R m j) (plow k) = some .gt ∨ FloatKind.f64.format.order (R m j) (plow k) = some .eq) at HD
   change Hid (∀ j h,FloatKind.f64.format.order (R m j) (plow k) = some .lt) at HE
   generalize pn k = p at *;generalize pup k = u at *;generalize plow k = l at *
   by_cases hp:1074 + p ≤ m.log2 + j
   ·have hf2:R m (j - p) < I:=fin_of h0 hm (by omega)
    have hmul:=run_mul (HL.out j hf (by omega))
    rcases HA.out j hf hp with ho | ho <;> rcases HD.out (j - p) hf2 (by omega) with ho2 | ho2
    all_goals
     go_wp2_with fail
     go_roundw
     case rel => exact ⟨k + 1,j - p,by omega,by go_num,by congr 1;omega,rfl,by rw [HB.out];omega,hb.alloc hb.size _⟩
     case measure => simp [intOf];omega
   ·have ho:=HC.out j (by omega)
    by_cases hq:m.log2 + j < 1074 - p
    ·have ho2:=HE.out j hq
     have hmul:=run_mul (HU.out j (fin_of h0 hm (by omega)));go_wp2_with fail
     go_roundw
     case rel => exact ⟨k + 1,j + p,by omega,by go_num,by congr 1;omega,rfl,by rw [HB.out];omega,hb.alloc hb.size _⟩
     case measure => simp [intOf];omega
    ·rcases HD.out j hf (by omega) with ho2 | ho2
     all_goals
      go_wp2_with fail
      go_roundw
      case rel => exact ⟨k + 1,j,by omega,by go_num,rfl,rfl,by rw [HB.out];omega,hb.alloc hb.size _⟩
      case measure => simp [intOf];omega
  ·have hk10:k = 10:=by omega
   subst hk10
   have h1:ub 10 = 1:=by decide
   rw [h1] at ht;clear h1;have hf:R m j < I:=fin_of h0 hm (by omega)
   have ho:FloatKind.f64.format.order (R m j) 4611686018427387904 = some .lt:=by
    have e:4611686018427387904 = R 1 1075:=by decide +kernel
    rw [e];exact pow_lt h0 hm (by decide) (by omega)
   go_wp2_with fail
   go_loop [0,4] (fun f n => f = .float .f64 (R m j) ∧ n = .int .i64 ((j0:Int) - j)) (fun _ _ => 0)
   case atStart => exact ⟨rfl,rfl⟩
   case round =>
    obtain ⟨rfl,rfl⟩:=hrel;go_wp2_with fail;clear ho
    go_loop [0,4] (fun f n => ∃ j:Nat,f = .float .f64 (R m j) ∧ n = .int .i64 ((j0:Int) - j) ∧ m.log2 + j ≤ 1074) (fun _ n => (intOf n - (m.log2:Int) - j0 + 1074).toNat)
    case atStart => exact ⟨j,rfl,rfl,by omega⟩
    case round =>
     clear hf ht;obtain ⟨j,rfl,rfl,ht⟩:=hrel;have hf:R m j < I:=fin_of h0 hm (by omega)
     have e1:4607182418800017408 = R 1 1074:=by decide +kernel
     have e2:4611686018427387904 = R 1 1075:=by decide +kernel
     by_cases hlt:m.log2 + j < 1074
     ·have ho:FloatKind.f64.format.order (R m j) 4607182418800017408 = some .lt:=by rw [e1];exact pow_lt h0 hm (by decide) hlt
      have hmul:=run_mul (a:=R m j) (b:=4611686018427387904) (r:=R m (j + 1)) (by
       have:=mul_pow false (m:=m) (j:=j) (i:=1075) hm hf (by decide +kernel) (by omega);rw [wd_false,wd_false,show j + 1075 - 1074 = j + 1 from by omega,Nat.min_eq_left (Nat.le_of_lt (fin_of h0 hm (by omega)))] at this
       rw [e2];exact this)
      clear e1 e2;go_wp2_with fail
      go_round
      case rel => exact ⟨j + 1,rfl,by congr 1;omega,by omega⟩
      case measure => simp [intOf];omega
     ·have hj:j = 1074 - m.log2:=by omega
      have hge:FloatKind.f64.format.order (R m j) 4607182418800017408 = some .gt ∨ FloatKind.f64.format.order (R m j) 4607182418800017408 = some .eq:=by rw [e1];exact pow_ge h0 hm hf (by omega)
      clear e1 e2
      have hx:(j0:Int) - j = (m.log2:Int) + j0 - 1074:=by omega
      rw [hx];subst hj;clear hx
      rcases hge with ho | ho
      all_goals
       go_wp2_with fail;go_ret2;exact ⟨rfl,hb⟩
end Fl
end
section
open Go.RowKit Go.Shelf
namespace Tr
open Mem Tp Maps
attribute [local go_sem] Fl.run_store_float
theorem keyI:Keyed Tryz.prog 3:=int_keyed Tryz.underlying3
theorem zeroI (w:World):(zeroValue 3).run Tryz.prog w = .ok (.int .i64 0) w:=by kernel_rfl
def kl (x:Int):Lit:=.int .i64 x
def InR (x:Int):Prop:=-9223372036854775808 ≤ x ∧ x ≤ 9223372036854775807
theorem wf_in {x:Int} (h:InR x):(Lit.int .i64 x).wf = true:=WalkArith.wf_i64 h
theorem kl_of {x:Int} (h:InR x):keyOf Tryz.prog 3 (.int .i64 x) = some (kl x):=keyOf_int_mk Tryz.underlying3 (wf_in h)
theorem kl_is (x:Int):WideAt.IsKeyLit (kl x):=by unfold kl;trivial
theorem kl_ne {x y:Int} (h:x ≠ y):kl x ≠ kl y:=by
 unfold kl;intro e;simp only [Lit.int.injEq] at e;exact h e.2
structure PD (D:DataW Unit) (l:List Rw):Prop where
 has_:∀ x,Maps.has D (kl x) = (up l x).isSome
 at_:∀ x p,up l x = some p → D.atKey (kl x) (.lit (.int .i64 0)) = .lit (.int .i64 p)
 size_:Maps.size D = l.length
theorem up_snoc (l:List Rw) (r:Rw) (x:Int):up (l ++ [r]) x = (up l x).or (if r.ch == x then some r.pa else none):=by
 unfold up;rw [List.find?_append,List.find?_cons]
 cases h:(l.find? (fun r => r.ch == x)) with
 | none => cases h2:(r.ch == x) <;> simp
 | some a => simp
theorem up_no {l:List Rw} {x:Int} (h:∀ r ∈ l,r.ch ≠ x):up l x = none:=by
 unfold up;rw [List.find?_eq_none.2 (fun r hr => by simpa using h r hr)]
 rfl
theorem pd_nil:PD (.map []) []:=⟨fun _ => rfl,(fun x p h => by simp [up] at h),rfl⟩
theorem PD.put {D:DataW Unit} {l:List Rw} (h:PD D l) (ht:Tidy D) {r:Rw} (hr:up l r.ch = none):PD (D.put (kl r.ch) (.lit (.int .i64 r.pa))) (l ++ [r]):=by
 refine ⟨fun x => ?_,fun x p hx => ?_,?_⟩
 ·rw [up_snoc]
  by_cases e:x = r.ch
  ·subst e
   rw [has_put_same ht.isMap (kl_is _),hr];simp
  ·rw [has_put_other (kl_ne e),h.has_]
   have:(r.ch == x) = false:=by simpa using fun h => e h.symm
   rw [this];simp
 ·rw [up_snoc] at hx
  by_cases e:x = r.ch
  ·subst e
   rw [hr] at hx;simp at hx;subst hx;exact atKey_put_same ht.isMap (kl_is _) _ _
  ·rw [atKey_put_other (kl_ne e)]
   have:(r.ch == x) = false:=by simpa using fun h => e h.symm
   rw [this] at hx;exact h.at_ x p (by simpa using hx)
 ·rw [size_put ht,h.has_,hr,h.size_]
  simp
def PM (w:World) (b k:Nat) (D:DataW Unit):Prop:=w.ownsMap Tryz.prog 3 (plainElem (H:=Unit) Tryz.prog 3) b k D
theorem parents_any (v:Value) (l:List Rw) (w:World) (hS:Mem.Rows w v l) (hl:l.length ≤ 4000) (hnd:(l.map (·.ch)).Nodup) (hr:∀ r ∈ l,InR r.ch ∧ InR r.pa) :
  Calls Tryz.prog 64 #[v] w fun e w' => e = .returned (.map (some w.heap.size)) ∧ (∃ D,PM w' w.heap.size l.length D ∧ PD D l) ∧ Below w.heap.size w w':=by
 have hmm:=@run_makeMap Tryz.prog;obtain ⟨a,c,rfl⟩:=hS.len;have HS:=hid hS;have HR:=hid hr;have HND:=hid hnd;clear hS hr hnd;obtain ⟨W1,hW1⟩:∃ W1,w.alloc (.map #[] 0) = W1:=⟨_,rfl⟩;have hM0:=hid (show PM W1 w.heap.size 0 (.map []) by rw [← hW1];exact World.ownsMap_made _ _ _ _);have hb1:=hid (show Below w.heap.size w W1 by rw [← hW1];exact (Below.refl _ _).alloc (Nat.le_refl _) _);go_enter Tryz.func64,Tryz.ntmps64;go_wp2_with fail;clear hmm
 go_loopw [11] (fun i wr => ∃ (k:Nat) (D:DataW Unit),i = .int .i64 k ∧ k ≤ l.length ∧ Hid (PD D (l.take k)) ∧ Hid (PM wr w.heap.size k D) ∧ Hid (Below w.heap.size w wr)) (fun i _ => l.length - (intOf i).toNat)
 case atStart => exact ⟨0,_,rfl,by omega,hid pd_nil,by first | exact hM0 | (rw [hW1];exact hM0),by first | exact hb1 | (rw [hW1];exact hb1)⟩
 case round =>
  clear hM0 hb1 hW1;obtain ⟨k,D,rfl,hk,hD,hM,hb⟩:=hrel
  by_cases hlt:k < l.length
  ·have hlt':(k:Int) < (l.length:Nat):=by omega
   obtain ⟨x,hx⟩:=some_at hlt;obtain ⟨b,off,rfl⟩:=HS.out.addr (by omega);obtain ⟨q0,q1,q2,q3⟩:=row_at (HS.out.below hb.out) rfl hx;obtain ⟨r1,r2⟩:=HR.out x (List.mem_of_getElem? hx)
   have hno:up (l.take k) x.ch = none:=up_no (fun r hr e => by
    obtain ⟨j,hj⟩:=List.getElem?_of_mem hr
    have hjk:j < k:=by have:=(List.getElem?_eq_some_iff.1 hj).1;rw [List.length_take] at this;omega
    rw [List.getElem?_take_of_lt hjk] at hj
    have h1:(l.map (·.ch))[j]? = (l.map (·.ch))[k]?:=by rw [List.getElem?_map,List.getElem?_map,hj,hx,Option.map_some,Option.map_some,e]
    have:=(List.getElem?_inj (i:=j) (j:=k) (by rw [List.length_map];omega) HND.out).1 h1
    omega)
   have hD2:=hid (hD.out.put (hM.out.tidy keyI) hno);rw [← take_snoc hx] at hD2;have hh:=hD.out.has_ x.ch;rw [hno] at hh;have hh2:Maps.has D (kl x.ch) = false:=hh;have hk1:=hid (kl_of r1);have hwp:=hid (wf_in r2);have hsz:=hb.out.size;have hMl:=hid (hM.out.alloc (.cells #[.int .i64 x.ch,.int .i64 x.pa,.string x.nm,.float .f64 x.rk] 96));have hbx:=hid (hb.out.alloc hsz (.cells #[.int .i64 x.ch,.int .i64 x.pa,.string x.nm,.float .f64 x.rk] 96));clear hx hno hh
   go_wp2_with (first | (at_lookup;refine wpList_lookup_own_ok_int _ (by rfl) _ _ 128 (by rfl) 3 3 .i64 keyI Tryz.underlying128 Tryz.underlying3 (zeroI _) w.heap.size k D (by rfl) hMl.out _ (kl x.ch) (by rfl) hk1.out ?_;intro c hat hwc;clear hat hwc) | (refine wpList_mapUpdate_own _ (by rfl) _ _ _ 128 (by rfl) 3 3 keyI Tryz.underlying128 _ w.heap.size k _ (by rfl) hMl.out (by unfold maxLen;omega) _ _ _ (by rfl) (by rfl) hk1.out _ [] (plainElem_int Tryz.underlying3 hwp.out) ?_;intro w1 hown1 hgrow1;have hM1:=hid hown1;have hbf:=hid (hbx.out.grown hgrow1 (by simp;omega) (fun j e => by cases e;exact Nat.le_refl _));clear hown1 hgrow1))
   go_roundw
   case rel => exact ⟨k + 1,_,by go_num,by omega,hD2,hM1,hbf⟩
   case measure => simp [intOf];omega
  ·obtain rfl:k = l.length:=by omega
   have hge:¬ ((l.length:Int) < (l.length:Nat)):=by omega
   rw [List.take_length] at hD;go_wp2_with fail;go_ret;exact ⟨rfl,⟨D,hM.out,hD.out⟩,hb.out⟩
end Tr
end
section
open Go.RowKit Go.Shelf
attribute [local go_sem] Oper.semAt_some
namespace Tr
open Mem Tp Maps
theorem pm_kept {T:Nat → Prop} {W W':World} {g k:Nat} {D:DataW Unit} (h:PM W g k D) (kp:Kept T W W') (hT:¬ T g):PM W' g k D:=by
 obtain ⟨es,clock,h1,r⟩:=h;exact ⟨es,clock,(kp.block g (lt_of_block h1) hT).trans h1,r⟩
theorem chain_some {l:List Rw} {n:Nat} {x p:Int} (h:up l x = some p):chain l (n + 1) x = p :: chain l n p:=by rw [chain,h]
theorem chain_none {l:List Rw} {n:Nat} {x:Int} (h:up l x = none):chain l n x = []:=by
 cases n with
 | zero => rfl
 | succ n => rw [chain,h]
theorem up_mem {l:List Rw} {x p:Int} (h:up l x = some p):∃ r ∈ l,r.ch = x ∧ r.pa = p:=by
 unfold up at h
 cases hf:l.find? (fun r => r.ch == x) with
 | none => rw [hf] at h;cases h
 | some r =>
  rw [hf] at h
  cases h
  exact ⟨r,List.mem_of_find?_eq_some hf,by simpa using List.find?_some hf,rfl⟩
theorem ways1_in (F:Fence) (n:Nat) (hf:F.fn 161) (hro:F.round = none) (hn:1 ≤ n) (l Bm Bf g kk:Nat) (D:DataW Unit) (lst:List Rw) (from_:Int) (T:Nat → Prop) (hl:lst.length ≤ 4000) (hr:∀ r ∈ lst,InR r.pa) (hfr:InR from_)
  (J Jx:List Int → World → Prop) (hJ:∀ pre W1 v,J pre W1 → J pre (W1.setCell ⟨Bf,0,none⟩ v))
  (hY:∀ pre x W,J pre W → pre.length < lst.length → YieldAt F (n - 1) Tryz.prog l #[.int .i64 x] W fun e W' => (e = .returned (.bool true) ∧ J (pre ++ [x]) W' ∧ Kept T W W') ∨ (e = .returned (.bool false) ∧ Jx (pre ++ [x]) W'))
  (W:World) (hm:W.heap[Bm]? = some (.cells #[.map (some g)] 128 (0,0))) (hfb:W.heap[Bf]? = some (.cells #[.int .i64 from_] 3 (0,0))) (hM:PM W g kk D) (hD:PD D lst) (hT:¬ T Bm ∧ ¬ T Bf ∧ ¬ T g) (hne:Bm ≠ Bf ∧ g ≠ Bf) (h0:J [] W) :
  CallsIn F n Tryz.prog 161 #[.func (.yield l) #[] #[],.pointer (some ⟨Bm,0,none⟩),.pointer (some ⟨Bf,0,none⟩)] W fun e W' => (∃ v,e = .returned v) ∧
   ((∃ ys,ys = chain lst lst.length from_ ∧ J ys W') ∨ (∃ pre,(∃ k,pre = (chain lst lst.length from_).take k) ∧ Jx pre W')):=by
 have hb0:=cell_of_one hm;have HD:=hid hD;have hsz:=hD.size_
 have hlen:=fun ty => hM.len Tryz.underlying128 ty
 rw [hsz] at hlen;have HR:=hid hr;have HJ:=hid hJ;have HY:=hid hY;have hm':=hid hm;have hM':=hid hM;have hfb':=hid hfb;clear hD hsz hr hJ hY hM hm hfb;refine callsIn_of_wp Tryz.func161 rfl hf ?_ hro
 simp only [Tryz.ntmps161,List.size_toArray,List.length_cons,List.length_nil,Nat.reduceAdd,Nat.reduceSub,Array.replicate_succ,Array.replicate_zero,List.push_toArray,List.append_toArray,List.nil_append,List.cons_append]
 gi_wp2
 gi_loopw [8] (fun i wr => ∃ (k:Nat) (pre:List Int) (fk:Int),k ≤ lst.length ∧ i = .int .i64 k ∧ pre.length = k ∧ InR fk ∧ Hid (chain lst lst.length from_ = pre ++ chain lst (lst.length - k) fk) ∧ J pre wr ∧ Hid (wr.heap[Bm]? = some (.cells #[.map (some g)] 128 (0,0))) ∧ Hid (wr.heap[Bf]? = some (.cells #[.int .i64 fk] 3 (0,0))) ∧ Hid (PM wr g kk D))
  (fun i _ => lst.length - (intOf i).toNat)
 case atStart => exact ⟨0,[],from_,Nat.zero_le _,rfl,rfl,hfr,hid rfl,h0,hm',hfb',hM'⟩
 case round =>
  clear hm' hfb' hM' hlen hb0;obtain ⟨k,pre,fk,hk,rfl,hpl,hfk,hch,hJs,hm,hfb,hM⟩:=hrel
  by_cases hlt:k < lst.length
  ·have hlt':(k:Int) < lst.length:=by omega
   have c1:=cell_of_one hm.out;have c2:=cell_of_one hfb.out;have hk1:=hid (kl_of hfk);have hh:=HD.out.has_ fk
   cases hup:up lst fk with
   | none =>
    rw [hup] at hh;have hh2:Maps.has D (kl fk) = false:=hh;have hfin:=hid (hch.out.trans (by rw [chain_none hup,List.append_nil]));clear hup hh
    gi_wp2_with (gi_at_lookup;refine wpListIn_lookup_own_ok_int _ (by rfl) _ _ 128 (by rfl) 3 3 .i64 keyI Tryz.underlying128 Tryz.underlying3 (zeroI _) g kk D (by rfl) hM.out _ (kl fk) (by rfl) hk1.out ?_;intro c hat hwc;clear hat hwc)
    refine ⟨(fun _ h => by cases h),?_⟩
    gi_wp2
    refine bodyPost_ret (results_none rfl _ _ _) rfl ?_
    exact ⟨⟨_,rfl⟩,.inl ⟨pre,hfin.out.symm,hJs⟩⟩
   | some p =>
    rw [hup] at hh;have hh2:Maps.has D (kl fk) = true:=hh;have hat0:=hid (HD.out.at_ fk p hup);obtain ⟨r0,hr0,-,hr1⟩:=up_mem hup
    have hpr:InR p:=by rw [← hr1];exact HR.out r0 hr0
    have hfin:=hid (hch.out.trans (by rw [show lst.length - k = (lst.length - (k + 1)) + 1 by omega,chain_some hup]));obtain ⟨fn,tmps,assign,body,hy,hR⟩:=HY.out pre p wr hJs (by omega);clear hup hh hr0 hr1
    gi_wp2_with (gi_at_lookup;refine wpListIn_lookup_own_ok_int _ (by rfl) _ _ 128 (by rfl) 3 3 .i64 keyI Tryz.underlying128 Tryz.underlying3 (zeroI _) g kk D (by rfl) hM.out _ (kl fk) (by rfl) hk1.out ?_;intro c hat hwc;have hcp:c = p:=(by have:=hat.symm.trans hat0.out;simp only [DataW.lit.injEq,Lit.int.injEq] at this;exact this.2);subst hcp;clear hat hwc)
    refine hR.mono ?_
    rintro e W3 (⟨rfl,hJ3,hk3⟩ | ⟨rfl,hJx3⟩)
    ·have hm3:=hid (hk3.at hm.out hT.1)
     have hf3:=hid (hk3.at hfb.out hT.2.1);have hM3:=hid (pm_kept hM.out hk3 hT.2.2)
     have hw1:IntKind.i64.wrap ((k:Int) + 1) = (k:Int) + 1:=by rw [IntKind.wrap_i64];omega
     have c3:W3.cell? ⟨Bf,0,none⟩ = some (.int .i64 fk):=cell_at hf3.out 0;have f3:W3.frozen? ⟨Bf,0,none⟩ = false:=free_at hf3.out 0;clear hk3;have hJ4:=hid (HJ.out _ _ (.int .i64 c) hJ3);have hm4:=hid (set_other hm3.out (p:=⟨Bf,0,none⟩) hne.1 (.int .i64 c));have hf4:Hid ((W3.setCell ⟨Bf,0,none⟩ (.int .i64 c)).heap[Bf]? = some (.cells #[.int .i64 c] 3 (0,0))):=hid ((set_at hf3.out 0 _).trans rfl);have hM4:Hid (PM (W3.setCell ⟨Bf,0,none⟩ (.int .i64 c)) g kk D):=hid (hM3.out.setCell (a:=⟨Bf,0,none⟩) hne.2 (.int .i64 c))
     have hch4:Hid (chain lst lst.length from_ = (pre ++ [c]) ++ chain lst (lst.length - (k + 1)) c):=hid (by rw [hfin.out,List.append_assoc];rfl)
     gi_wp2
     go_roundw
     case rel => exact ⟨k + 1,pre ++ [c],c,by omega,by go_num,by rw [List.length_append,hpl];rfl,hpr,hch4,hJ4.out,hm4,hf4,hM4⟩
     case measure => simp [intOf] <;> omega
    ·have htk:Hid (pre ++ [c] = (chain lst lst.length from_).take (k + 1)):=hid (by rw [hfin.out,List.take_append,List.take_of_length_le (by omega),hpl,show k + 1 - k = 1 by omega];rfl)
     gi_wp2
     refine bodyPost_ret (results_none rfl _ _ _) rfl ?_
     exact ⟨⟨_,rfl⟩,.inr ⟨_,⟨k + 1,htk.out⟩,hJx3⟩⟩
  ·obtain rfl:k = lst.length:=by omega
   have hnl:¬ ((lst.length:Int) < lst.length):=by omega
   have hfin:=hid (hch.out.trans (by rw [Nat.sub_self,chain,List.append_nil]))
   gi_wp2
   go_end0
   exact ⟨⟨_,rfl⟩,.inl (by rw [hfin.out];exact hJs)⟩
theorem ways_gives (F:Fence) (n:Nat) (hf:F.fn 161) (hro:F.round = none) (hn:1 ≤ n) (Bm Bf g kk:Nat) (D:DataW Unit) (lst:List Rw) (from_:Int) (T:Nat → Prop) (hl:lst.length ≤ 4000) (hr:∀ r ∈ lst,InR r.pa) (hfr:InR from_) (w:World)
  (hm:w.heap[Bm]? = some (.cells #[.map (some g)] 128 (0,0))) (hfb:w.heap[Bf]? = some (.cells #[.int .i64 from_] 3 (0,0))) (hM:PM w g kk D) (hD:PD D lst) (hT:¬ T Bm ∧ ¬ T Bf ∧ ¬ T g) (hne:Bm ≠ Bf ∧ g ≠ Bf) :
  Gives1 F n Tryz.prog 161 #[.pointer (some ⟨Bm,0,none⟩),.pointer (some ⟨Bf,0,none⟩)] (fun x:Int => #[Value.int .i64 x]) (Kept T) (fun ys => ys = chain lst lst.length from_) (fun pre => ∃ k,pre = (chain lst lst.length from_).take k) lst.length Bf w:=
 fun l J Jx W hW hJ hY h0 => ways1_in F n hf hro hn l Bm Bf g kk D lst from_ T hl hr hfr J Jx hJ hY W (below_at hW hm (lt_of_block hm)) (below_at hW hfb (lt_of_block hfb))
  (by obtain ⟨es,clock,h1,r⟩:=hM;exact ⟨es,clock,below_at hW h1 (lt_of_block h1),r⟩) hD hT hne h0
theorem ways_any (g:Nat) (x:Int) (w:World) :
  Calls Tryz.prog 115 #[.map (some g),.int .i64 x] w fun e w' => e = .returned (.func (.func 161) #[] #[.pointer (some ⟨w.heap.size,0,none⟩),.pointer (some ⟨w.heap.size + 1,0,none⟩)]) ∧ w' = (w.alloc (.cells #[.map (some g)] 128)).alloc (.cells #[.int .i64 x] 3):=by
 have hmf:∀ (fn:Fn) (first cap:Array Value) (w:World),(Instr.makeFunc fn first cap).run Tryz.prog w = .ok (.func fn first cap) w:=fun _ _ _ _ => rfl
 go_enter Tryz.func115,Tryz.ntmps115;go_wp2_with fail;go_ret;exact ⟨rfl,rfl⟩
end Tr
end
section
open Go.RowKit Go.Shelf
attribute [local go_sem] Oper.semAt_some
namespace Tr
open Mem Tp Maps
def AbI (w:World) (a:Int) (pre:List Int) (W:World):Prop:=
 (∀ x ∈ pre,x ≠ a) ∧ W.heap[w.heap.size]? = some (.cells #[.int .i64 a] 3 (0,0)) ∧ W.heap[w.heap.size + 1]? = some (.cells #[.bool false] 4 (0,0)) ∧ Below w.heap.size w W ∧ w.heap.size + 1 < W.heap.size
def AbX (w:World) (a:Int) (c:Code) (pre:List Int) (W:World):Prop:=
 c = .ret ∧ a ∈ pre ∧ W.heap[w.heap.size + 1]? = some (.cells #[.bool true] 4 (0,0)) ∧ Below w.heap.size w W
theorem above_results (tmps:Array Value) (w:World) (B:Nat) (q:Bool) (h:tmps.getD 6 undef = .pointer (some ⟨B,0,none⟩)) (hw:w.heap[B]? = some (.cells #[.bool q] 4 (0,0))) :
  (results Tryz.f164 tmps).run Tryz.prog w = .ok (.bool q) w:=by
 have hr:Tryz.f164.results = #[.cell 6 4]:=rfl;have c0:w.cell? ⟨B,0,none⟩ = some (.bool q):=cell_at hw 0;simp only [results,hr];simp only [Array.getD_eq_getD_getElem?] at h;simp [Sem.run_bind,Result.andThen,h,go_sem];simp [c0]
theorem below_put {w W:World} {k:Nat} (h:Below w.heap.size w W) (hk:w.heap.size ≤ k) (o:Obj):Below w.heap.size w (W.putObj k o):=
 ⟨h.os,h.tape,h.output,by simpa [World.putObj] using h.size,fun j hj => (World.putObj_heap_other (by omega)).trans (h.block j hj)⟩
theorem above_in (v:Value) (l:List Rw) (a b:Int) (w:World) (hS:Mem.Rows w v l) (hl:l.length ≤ 4000) (hnd:(l.map (·.ch)).Nodup) (hr:∀ r ∈ l,InR r.ch ∧ InR r.pa) (hb:InR b) :
  CallsIn Fence.wide 3 Tryz.prog 164 #[v,.int .i64 a,.int .i64 b] w fun e w' => e = .returned (.bool (above l a b)) ∧ Below w.heap.size w w':=by
 have HP:=hid (fun (W:World) (h:Mem.Rows W v l) => parents_any v l W h hl hnd hr);have hb0:=((Below.refl w.heap.size w).alloc (Nat.le_refl _) (.cells #[.int .i64 a] 3)).alloc (by simp) (.cells #[.bool false] 4);have hS0:=hid (hS.below hb0);have hg0:=alloc_at (.cells #[.bool false] 4) (alloc_new w (.cells #[.int .i64 a] 3))
 have hg1:((w.alloc (.cells #[.int .i64 a] 3)).alloc (.cells #[.bool false] 4)).heap[w.heap.size + 1]? = some (.cells #[.bool false] 4 (0,0)):=by
  have:=alloc_new (w.alloc (.cells #[.int .i64 a] 3)) (.cells #[.bool false] 4)
  simpa using this
 have hsz:((w.alloc (.cells #[.int .i64 a] 3)).alloc (.cells #[.bool false] 4)).heap.size = w.heap.size + 1 + 1:=by simp
 replace hb0:=hid hb0;replace hg0:=hid hg0;replace hg1:=hid hg1;replace hsz:=hid hsz;have HR:=hid hr;clear hS hnd hr;refine callsIn_of_wp_marks Tryz.func164 rfl trivial ?_ rfl
 simp only [Tryz.ntmps164,List.size_toArray,List.length_cons,List.length_nil,Nat.reduceAdd,Nat.reduceSub,Array.replicate_succ,Array.replicate_zero,List.push_toArray,List.append_toArray,List.nil_append,List.cons_append]
 gi_wp2_with fail
 refine ⟨trivial,?_⟩
 refine CallsIn.mono (callsIn_wide.2 (HP.out _ hS0.out)) ?_
 rintro e' w2 ⟨rfl,⟨D,hM,hD⟩,hb2⟩;have hbb:=hid (hb0.out.trans (hb2.mono (by rw [hsz.out];omega)));have hg2:=hid (below_at hb2 hg0.out (by rw [hsz.out];omega));have hg3:=hid (below_at hb2 hg1.out (by rw [hsz.out];omega));have hs2:=hb2.size;have hlt:=hM.lt;replace hM:=hid hM;replace hD:=hid hD;clear hb2
 gi_wp2_with fail
 refine ⟨trivial,?_⟩
 refine CallsIn.mono (callsIn_wide.2 (ways_any _ _ _)) ?_
 rintro e' w3 ⟨rfl,rfl⟩
 gi_wp2_with fail
 obtain ⟨W3,hW3⟩:∃ W3,(w2.alloc (.cells #[.map (some (w.heap.size + 1 + 1))] 128)).alloc (.cells #[.int .i64 b] 3) = W3:=⟨_,rfl⟩
 have hz3:W3.heap.size = w2.heap.size + 2:=by rw [← hW3];simp
 have hs0:=hsz.out
 have hm3:W3.heap[w2.heap.size]? = some (.cells #[.map (some (w.heap.size + 1 + 1))] 128 (0,0)):=by rw [← hW3];exact alloc_at _ (alloc_new w2 _)
 have hf3:W3.heap[w2.heap.size + 1]? = some (.cells #[.int .i64 b] 3 (0,0)):=by
  rw [← hW3];have:=alloc_new (w2.alloc (.cells #[.map (some (w.heap.size + 1 + 1))] 128)) (.cells #[.int .i64 b] 3)
  simpa using this
 have hM3:PM W3 (w.heap.size + 1 + 1) l.length D:=by rw [← hW3,← hs0];exact (hM.out.alloc _).alloc _
 have hbel3:Below w.heap.size w W3:=by rw [← hW3];exact (hbb.out.alloc (by omega) _).alloc (by simp;omega) _
 have hgA:W3.heap[w.heap.size]? = some (.cells #[.int .i64 a] 3 (0,0)):=by rw [← hW3];exact alloc_at _ (alloc_at _ hg2.out)
 have hgB:W3.heap[w.heap.size + 1]? = some (.cells #[.bool false] 4 (0,0)):=by rw [← hW3];exact alloc_at _ (alloc_at _ hg3.out)
 rw [hs0] at hlt hs2
 change Code.wpIn _ _ _ _ _ _ ((w2.alloc (.cells #[.map (some (w.heap.size + 1 + 1))] 128)).alloc (.cells #[.int .i64 b] 3))
 rw [hW3];clear hW3;refine range_box rfl (by decide) (gf:=161) (lb:=#[.pointer (some ⟨w2.heap.size,0,none⟩),.pointer (some ⟨w2.heap.size + 1,0,none⟩)]) rfl trivial (enters_of Tryz.func161 (by kernel_rfl) rfl)
  (ways_gives Fence.wide 2 trivial rfl (by decide) w2.heap.size (w2.heap.size + 1) (w.heap.size + 1 + 1) l.length D l b (fun k => k = w.heap.size + 1 ∨ w2.heap.size + 2 ≤ k) hl (fun r h => (HR.out r h).2) hb W3 hm3 hf3 hM3 hD.out ⟨by omega,by omega,by omega⟩ ⟨by omega,by omega⟩)
  (by omega) (fun _ => rfl) (fun h k => h.trans k) ?hKr (AbI w a) (AbX w a) ?hIr ?hIb ?hIx ?h0
  (fun x => { tmps:=#[v,.int .i64 a,.int .i64 b,undef,.pointer (some ⟨w.heap.size,0,none⟩),undef,.pointer (some ⟨w.heap.size + 1,0,none⟩),.int .i64 x,v,.map (some (w.heap.size + 1 + 1)),.int .i64 b,.func (.func 161) #[] #[.pointer (some ⟨w2.heap.size,0,none⟩),.pointer (some ⟨w2.heap.size + 1,0,none⟩)],.int .i64 x,undef,undef,undef],defers:=[] }) ?assign ?body ?done ?stop
 case hKr => exact fun W o => ⟨rfl,rfl,rfl,by simp [World.putObj],fun k _ hk => World.putObj_heap_other (by omega)⟩
 case assign =>
  intro l x W K hK
  gi_wp2
  exact hK
 case hIr =>
  rintro pre W o ⟨h1,h2,h3,h4,h5⟩;exact ⟨h1,(World.putObj_heap_other (by omega)).trans h2,(World.putObj_heap_other (by omega)).trans h3,below_put h4 (by omega) o,by simpa [World.putObj] using h5⟩
 case hIb =>
  rintro pre W u ⟨h1,h2,h3,h4,h5⟩;exact ⟨h1,set_other h2 (by show w.heap.size ≠ w2.heap.size + 1;omega) u,set_other h3 (by show w.heap.size + 1 ≠ w2.heap.size + 1;omega) u,h4.setCell (by show w.heap.size ≤ w2.heap.size + 1;omega) u,by simpa [World.setCell] using h5⟩
 case hIx =>
  rintro c pre W o ⟨h1,h2,h3,h4⟩;exact ⟨h1,h2,(World.putObj_heap_other (by omega)).trans h3,below_put h4 (by omega) o⟩
 case h0 =>
  intro o1 o2;exact ⟨fun x h => by simp at h,alloc_at _ (alloc_at _ hgA),alloc_at _ (alloc_at _ hgB),(hbel3.alloc (by omega) _).alloc (by simp;omega) _,by simp;omega⟩
 case body =>
  rintro l' pre x W ⟨h1,h2,h3,h4,h5⟩ hlen;have c0:W.cell? ⟨w.heap.size,0,none⟩ = some (.int .i64 a):=cell_at h2 0;have c1:W.cell? ⟨w.heap.size + 1,0,none⟩ = some (.bool false):=cell_at h3 0;have f1:W.frozen? ⟨w.heap.size + 1,0,none⟩ = false:=free_at h3 0;have H1:=hid h1;have H2:=hid h2;have H3:=hid h3;have H4:=hid h4;clear h1 h2 h3 h4
  by_cases hx:x = a
  ·subst hx
   have H5:Hid ((W.setCell ⟨w.heap.size + 1,0,none⟩ (.bool true)).heap[w.heap.size + 1]? = some (.cells #[.bool true] 4 (0,0))):=hid ((set_at H3.out 0 _).trans rfl);have H6:=hid (H4.out.setCell (p:=⟨w.heap.size + 1,0,none⟩) (by show w.heap.size ≤ w.heap.size + 1;omega) (.bool true))
   gi_wp2_with fail
   exact ⟨⟨by simp [World.setCell],fun k o hk ho _ => (setCell_heap_other (by show k ≠ w.heap.size + 1;omega)).trans ho⟩,rfl,by simp,H5.out,H6.out⟩
  ·gi_wp2_with fail
   exact ⟨KeepsFrom.refl _ _,Kept.refl _ _,fun y hy => (by
    rw [List.mem_append,List.mem_singleton] at hy
    rcases hy with hy | rfl
    ·exact H1.out y hy
    ·exact hx),H2.out,H3.out,H4.out,h5⟩
 case done =>
  rintro xs W hS ⟨h1,h2,h3,h4,h5⟩ hDD
  have hab:Hid (above l a b = false):=hid (by
   unfold above;rw [← show xs = chain l l.length b from hS,List.contains_eq_any_beq,List.any_eq_false];intro x hx;have:=h1 x hx
   simpa using fun e => this e.symm)
  have c1:W.cell? ⟨w.heap.size + 1,0,none⟩ = some (.bool false):=cell_at h3 0;have f1:W.frozen? ⟨w.heap.size + 1,0,none⟩ = false:=free_at h3 0;have H3:=hid h3;have H4:=hid h4;have HD:=hid hDD;clear h1 h2 h3 h4 hDD hS
  gi_wp2_with fail
  have hD5:(W.setCell ⟨w.heap.size + 1,0,none⟩ (.bool false)).heap[W3.heap.size]? = some (.deferred (some [])):=(setCell_heap_other (by show W3.heap.size ≠ w.heap.size + 1;omega)).trans HD.out;have hc5:((W.setCell ⟨w.heap.size + 1,0,none⟩ (.bool false)).putObj W3.heap.size (.deferred none)).heap[w.heap.size + 1]? = some (.cells #[.bool false] 4 (0,0)):=(World.putObj_heap_other (by omega)).trans ((set_at H3.out 0 _).trans rfl)
  have hb5:=below_put (H4.out.setCell (p:=⟨w.heap.size + 1,0,none⟩) (by show w.heap.size ≤ w.heap.size + 1;omega) (.bool false)) (show w.heap.size ≤ W3.heap.size by omega) (.deferred none);refine ⟨by simp,.inl ⟨_,_,rfl,run_takeDeferred hD5,?_⟩⟩
  exact ⟨_,above_results _ _ _ false rfl hc5,by rw [hab.out],hb5⟩
 case stop =>
  rintro c pre W ⟨k,hk⟩ ⟨rfl,h1,h2,h3⟩ hDD
  have hab:Hid (above l a b = true):=hid (by
   unfold above;rw [List.contains_iff_mem];rw [hk] at h1
   exact List.mem_of_mem_take h1)
  have c1:W.cell? ⟨w.heap.size + 1,0,none⟩ = some (.bool true):=cell_at h2 0;have H3:=hid h3;have H2:=hid h2;have HD:=hid hDD;clear h1 h2 h3 hDD hk
  gi_wp2_with fail
  have hc5:(W.putObj W3.heap.size (.deferred none)).heap[w.heap.size + 1]? = some (.cells #[.bool true] 4 (0,0)):=(World.putObj_heap_other (by omega)).trans H2.out;have hb5:=below_put H3.out (show w.heap.size ≤ W3.heap.size by omega) (.deferred none);refine ⟨by simp,.inl ⟨_,_,rfl,run_takeDeferred HD.out,?_⟩⟩
  exact ⟨_,above_results _ _ _ true rfl hc5,by rw [hab.out],hb5⟩
theorem above_any (v:Value) (l:List Rw) (a b:Int) (w:World) (hS:Mem.Rows w v l) (hl:l.length ≤ 4000) (hnd:(l.map (·.ch)).Nodup) (hr:∀ r ∈ l,InR r.ch ∧ InR r.pa) (hb:InR b) :
  Calls Tryz.prog 164 #[v,.int .i64 a,.int .i64 b] w fun e w' => e = .returned (.bool (above l a b)) ∧ Below w.heap.size w w':=
 callsIn_wide.1 (above_in v l a b w hS hl hnd hr hb)
end Tr
end
section
open Go.RowKit
namespace Mem
def marks (bs:List Nat):List Deferred:=bs.map fun b => { target:=.collected b,args:=#[] }
theorem leaves_marks {F:Fence} {n:Nat} {P:Program} {fn:Func} {tmps:Array Value} {R:Ending → World → Prop} (G:World → Prop) (T:Nat → Prop) (hG:∀ W b o,T b → G W → G (W.putObj b o)) (hend:∀ W,G W → LeavesInM F n P fn tmps R [] .returning W) :
  ∀ (bs:List Nat) (w:World),bs.Nodup → (∀ b ∈ bs,T b ∧ w.heap[b]? = some (.deferred (some []))) → G w → LeavesInM F n P fn tmps R (marks bs) .returning w:=by
 intro bs
 induction bs with
 | nil => exact fun w _ _ h => hend w h
 | cons b bs ih =>
  intro w hnd hb hg;rw [List.nodup_cons] at hnd;obtain ⟨hT,hd⟩:=hb b (List.mem_cons_self ..);refine ⟨by simp,.inl ⟨b,_,rfl,run_takeDeferred hd,?_⟩⟩
  refine ih _ hnd.2 (fun c hc => ⟨(hb c (List.mem_cons_of_mem _ hc)).1,?_⟩) (hG _ _ _ hT hg)
  exact (World.putObj_heap_other (by rintro rfl;exact hnd.1 hc)).trans (hb c (List.mem_cons_of_mem _ hc)).2
def lay (w:World) (os:List Obj):World:=os.foldl World.alloc w
theorem lay_size:∀ (os:List Obj) (w:World),(lay w os).heap.size = w.heap.size + os.length
 | [],w => rfl
 | o :: os,w => by
  show (lay (w.alloc o) os).heap.size = _
  rw [lay_size os,World.size_alloc,List.length_cons];omega
theorem lay_below (os:List Obj) (w:World):Below w.heap.size w (lay w os):=by
 induction os generalizing w with
 | nil => exact Below.refl _ _
 | cons o os ih => exact ((Below.refl _ w).alloc (Nat.le_refl _) o).trans ((ih (w.alloc o)).mono (by simp))
theorem lay_at:∀ (os:List Obj) (w:World) (i:Nat) (o:Obj),os[i]? = some o → (lay w os).heap[w.heap.size + i]? = some o
 | [],w,i,o,h => by simp at h
 | p :: os,w,0,o,h => by
  simp only [List.getElem?_cons_zero,Option.some.injEq] at h;subst h;exact below_at (lay_below os (w.alloc p)) (alloc_new w p) (by simp)
 | p :: os,w,i + 1,o,h => by
  have:=lay_at os (w.alloc p) i o (by simpa using h);rw [World.size_alloc] at this;rw [show w.heap.size + (i + 1) = w.heap.size + 1 + i by omega];exact this
end Mem
end
section
open Go.RowKit
namespace Mem
structure Held (S:World → Prop) where
 w:World
 h:S w
theorem wp_region_class {P:Program} {id:Nat} {Q:Exit → Act → World → Prop} {a:Act} {w:World} {l:List Oper} (S:World → Prop) (hm:P.follows .mixedOrders = true) (hB:Region.lexB .any l.toArray = true) (hS:S w.drew)
  (h:wpQuiet P l.toArray (fun w' => ∃ q:Held S,w' = q.w) (fun a' => ∀ w',(∃ q:Held S,w' = q.w) → Q .normal a' w') l a):(Code.region id l.toArray true).wp P Q a w:=
 wp_region_quiet (C:=fun w' => ∃ q:Held S,w' = q.w) hm hB ⟨⟨_,hS⟩,rfl⟩ h
theorem held_calls {P:Program} {f:FuncId} {args:Array Value} {v:Value} {S:World → Prop} {q:Held S} (h:Calls P f args q.w fun e w' => e = .returned v ∧ S w') :
  Calls P f args q.w fun e w' => e = .returned v ∧ ∃ q':Held S,w' = q'.w:=h.mono fun _ w' ⟨h1,h2⟩ => ⟨h1,⟨w',h2⟩,rfl⟩
end Mem
end
section
open Go.RowKit Go.Shelf
namespace Tr
open Mem Tp Maps
attribute [local go_sem] Fl.run_store_float Oper.semAt_some
abbrev RG (W:World) (gm rr n:Nat) (D:DataW Unit) (left:Lit → Bool) (cnt:Nat):Prop:=W.ranges Tryz.prog 3 (plainElem (H:=Unit) Tryz.prog 3) gm rr n D left cnt
theorem rg_kept {T:Nat → Prop} {W W':World} {gm rr n cnt:Nat} {D:DataW Unit} {left:Lit → Bool} (h:RG W gm rr n D left cnt) (kp:Kept T W W') (h1:¬ T gm) (h2:¬ T rr):RG W' gm rr n D left cnt:=by
 obtain ⟨es,clock,since,seen,c0,hb,F,hs,hD,hr,rest⟩:=h;exact ⟨es,clock,since,seen,c0,kp.at hb h1,F,hs,hD,kp.at hr h2,rest⟩
theorem kept_put {T:Nat → Prop} {a w:World} (h:Kept T a w) {p:Nat} (hp:p < a.heap.size → T p) (u:Obj):Kept T a (w.putObj p u):=
 ⟨h.os,h.tape,h.output,by simpa [World.putObj] using h.size,fun k hk ht => by
  rw [World.putObj_heap_other (fun e => ht (by subst e;exact hp hk))]
  exact h.block k hk ht⟩
structure MayI (w:World) (bs:List Nat) (gm rr n:Nat) (D:DataW Unit) (left:Lit → Bool) (cnt:Nat) (x:Int) (bx lo:Nat) (pre:List Int) (W:World):Prop where
 ne:∀ y ∈ pre,y ≠ x
 cx:W.heap[bx]? = some (.cells #[.int .i64 x] 3 (0,0))
 cr:W.heap[w.heap.size]? = some (.cells #[.bool false] 4 (0,0))
 rg:RG W gm rr n D left cnt
 ms:∀ b ∈ bs,W.heap[b]? = some (.deferred (some []))
 be:Below w.heap.size w W
 lo:lo ≤ W.heap.size
theorem MayI.kept {w:World} {bs:List Nat} {gm rr n:Nat} {D:DataW Unit} {left:Lit → Bool} {cnt:Nat} {x:Int} {bx lo:Nat} {pre:List Int} {W W':World} {T:Nat → Prop} (h:MayI w bs gm rr n D left cnt x bx lo pre W) (kp:Kept T W W')
  (hT:∀ k,T k → lo ≤ k) (h1:bx < lo) (h2:w.heap.size < lo) (h3:gm < lo) (h4:rr < lo) (h5:∀ b ∈ bs,b < lo):MayI w bs gm rr n D left cnt x bx lo pre W':=
 ⟨h.ne,kp.at h.cx (fun t => by have:=hT _ t;omega),kp.at h.cr (fun t => by have:=hT _ t;omega),rg_kept h.rg kp (fun t => by have:=hT _ t;omega) (fun t => by have:=hT _ t;omega),
  fun b hb => kp.at (h.ms b hb) (fun t => by have:=hT _ t;have:=h5 b hb;omega),h.be.trans (kp.to_below h.be.size (fun k hk t => by have:=hT _ t;omega)),Nat.le_trans h.lo kp.size⟩
theorem may_results (tmps:Array Value) (w:World) (B:Nat) (q:Bool) (h:tmps.getD 2 undef = .pointer (some ⟨B,0,none⟩)) (hw:w.heap[B]? = some (.cells #[.bool q] 4 (0,0))) :
  (results Tryz.f66 tmps).run Tryz.prog w = .ok (.bool q) w:=by
 have hr:Tryz.f66.results = #[.cell 2 4]:=rfl;have c0:w.cell? ⟨B,0,none⟩ = some (.bool q):=cell_at hw 0;simp only [results,hr];simp only [Array.getD_eq_getD_getElem?] at h;simp [Sem.run_bind,Result.andThen,h,go_sem];simp [c0]
theorem may_ok (v:Value) (l:List Rw) (w:World) (hS:Mem.Rows w v l) (hl:l.length ≤ 2000) (ho:∀ r ∈ l,oneR r = true) (hz:∀ r ∈ l,r.nm.size ≤ 100000)
  (hso:∀ (j:Nat) (a b:Rw),l[j]? = some a → l[j + 1]? = some b → a.ch < b.ch) (hnd:(l.map (·.ch)).Nodup) (hr:∀ r ∈ l,InR r.ch ∧ InR r.pa) (hac:∀ r ∈ l,above l r.ch r.ch = false) :
  Calls Tryz.prog 66 #[v] w fun e w' => e = .returned (.bool true) ∧ Below w.heap.size w w':=by
 have HP:=hid (fun (W:World) (h:Mem.Rows W v l) => parents_any v l W h (by omega) hnd hr);have HO:=hid (fun (r:Rw) (W:World) (h:r ∈ l) => one_any r W (hz r h));have HOk:=hid ho;have HQ:=hid hso;have HR:=hid hr;have HA:=hid hac;obtain ⟨a,c,rfl⟩:=hS.len;have HS:=hid hS
 have hl2:(l.length:Int) ≤ 2000:=by omega
 have hb0:=hid ((Below.refl w.heap.size w).alloc (Nat.le_refl _) (.cells #[.bool false] 4));have hg0:=hid (alloc_new w (.cells #[.bool false] 4));clear hS hso hnd hr hac hz ho;refine callsIn_wide.1 (callsIn_of_wp_marks (F:=Fence.wide) (n:=3) Tryz.func66 rfl trivial ?_ rfl)
 simp only [Tryz.ntmps66,List.size_toArray,List.length_cons,List.length_nil,Nat.reduceAdd,Nat.reduceSub,Array.replicate_succ,Array.replicate_zero,List.push_toArray,List.append_toArray,List.nil_append,List.cons_append];refine wpIn_wide.2 ?_
 go_wp2_with fail;generalize w.alloc (.cells #[.bool false] 4) = W0 at *
 go_loopw [13] (fun i wr => ∃ k:Nat,i = .int .i64 k ∧ (k ≤ l.length) ∧ Hid (wr.heap[w.heap.size]? = some (.cells #[.bool false] 4 (0,0))) ∧ Hid (Below w.heap.size w wr)) (fun i _ => l.length - (intOf i).toNat)
 case atStart => exact ⟨0,rfl,by omega,hg0,hb0⟩
 case round =>
  clear hg0 hb0;obtain ⟨k,rfl,hk,hg,hb⟩:=hrel
  by_cases hlt:k < l.length
  ·have hlt':(k:Int) < (l.length:Nat):=by omega
   obtain ⟨x,hx⟩:=some_at hlt;obtain ⟨b,off,rfl⟩:=HS.out.addr (by omega);have hbl:=sl_lt HS.out (by omega);obtain ⟨q0,q1,q2,q3⟩:=row_at (HS.out.below hb.out) rfl hx;have hxm:=List.mem_of_getElem? hx;have hwl:=lt_of_block hg.out;have hbx:=hid (hb.out.alloc (Nat.le_of_lt hwl) (.cells #[.int .i64 x.ch,.int .i64 x.pa,.string x.nm,.float .f64 x.rk] 96));have hgx:=hid (alloc_at (.cells #[.int .i64 x.ch,.int .i64 x.pa,.string x.nm,.float .f64 x.rk] 96) hg.out);have hxx:=alloc_new wr (.cells #[.int .i64 x.ch,.int .i64 x.pa,.string x.nm,.float .f64 x.rk] 96)
   have hprev:∀ y:Rw,l[k - 1]? = some y → (wr.alloc (.cells #[.int .i64 x.ch,.int .i64 x.pa,.string x.nm,.float .f64 x.rk] 96)).cell? ⟨b,off + (k - 1) * 4,none⟩ = some (.int .i64 y.ch):=fun y hy =>
    (row_at (HS.out.below hbx.out) rfl hy).1
   replace hprev:=hid hprev;have hx':=hid hx;clear hx hb hg
   go_upto_region 6 with fail
   obtain ⟨W0,hW0⟩:∃ W0,wr.alloc (.cells #[.int .i64 x.ch,.int .i64 x.pa,.string x.nm,.float .f64 x.rk] 96) = W0:=⟨_,rfl⟩;rw [hW0] at hbx hgx hxx hprev ⊢;have hlx:=lt_of_block hxx;have hwg:=lt_of_block hgx.out;have hbw:b < W0.heap.size:=Nat.lt_of_lt_of_le hbl hbx.out.size;clear hW0;generalize wr.heap.size = g at *;have hS1:=(Below.refl W0.heap.size W0).drew
   haveI hne:Nonempty (Held (Below W0.heap.size W0)):=⟨⟨_,hS1⟩⟩
   have c0:∀ q:Held (Below W0.heap.size W0),q.w.cell? ⟨g,0,none⟩ = some (.int .i64 x.ch):=fun q => cell_at (below_at q.h hxx hlx) 0
   have c1:∀ q:Held (Below W0.heap.size W0),q.w.cell? ⟨g,1,none⟩ = some (.int .i64 x.pa):=fun q => cell_at (below_at q.h hxx hlx) 1
   have c2:∀ q:Held (Below W0.heap.size W0),q.w.cell? ⟨g,2,none⟩ = some (.string x.nm):=fun q => cell_at (below_at q.h hxx hlx) 2
   have c3:∀ q:Held (Below W0.heap.size W0),q.w.cell? ⟨g,3,none⟩ = some (.float .f64 x.rk):=fun q => cell_at (below_at q.h hxx hlx) 3
   have HA:Hid (∀ q:Held (Below W0.heap.size W0),Calls Tryz.prog 45 #[.agg #[.int .i64 x.ch,.int .i64 x.pa,.string x.nm,.float .f64 x.rk]] q.w fun e w' => e = .returned (.bool true) ∧ ∃ q':Held (Below W0.heap.size W0),w' = q'.w):=
    hid (fun q => held_calls ((HO.out x q.w hxm).mono fun e w' (c:_ ∧ Below q.w.heap.size q.w w') => And.intro (c.1.trans (by rw [HOk.out x hxm])) (q.h.trans (c.2.mono q.h.size))))
   replace hxx:=hid hxx
   have hw2:IntKind.i64.wrap ((k:Int) + 1) = (k:Int) + 1:=by rw [IntKind.wrap_i64];omega
   by_cases hk0:k = 0
   ·subst hk0
    go_wp2_with fail
    try simp only [List.append]
    refine wp_region_class (Below W0.heap.size W0) (by kernel_rfl) (by kernel_rfl) hS1 ?_
    repeat (go_big_quiet_step ((go_at_call 45;with_reducible exact HA.out _)))
    refine wpQuiet_nil ?_
    intro _ hw';obtain ⟨⟨Wq,hq⟩,hw''⟩:=hw';subst hw'';have hgq:=hid (below_at hq hgx.out hwg);have hbq:=hid (hbx.out.trans (hq.mono hbx.out.size));clear hq hS1 HA hne c0 c1 c2 c3;go_wp2_with fail
    go_roundw
    case rel => exact ⟨1,by go_num,by omega,hgq,hbq⟩
    case measure => simp [intOf];omega
   ·obtain ⟨j,rfl⟩:∃ j,k = j + 1:=⟨k - 1,by omega⟩
    obtain ⟨y,hy⟩:=some_at (show j < l.length by omega);have hcy:W0.cell? ⟨b,off + j * 4,none⟩ = some (.int .i64 y.ch):=hprev.out y hy
    have c4:∀ q:Held (Below W0.heap.size W0),q.w.cell? ⟨b,off + j * 4,none⟩ = some (.int .i64 y.ch):=fun q => (q.h.cell (p:=⟨b,off + j * 4,none⟩) hbw).trans hcy
    have hlt2:=HQ.out j y x hy hx'.out;have d1:decide (x.ch ≤ y.ch) = false:=decide_eq_false (by omega)
    have hw1:IntKind.i64.wrap ((j:Int) + 1 - 1) = (j:Int):=by rw [IntKind.wrap_i64];omega
    have hj0:(0:Int) ≤ (j:Int):=by omega
    have hj1:(j:Int) < (l.length:Nat):=by omega
    have hj2:decide ((0:Int) < (j:Int) + 1) = true:=decide_eq_true (by omega);clear hy hcy;go_wp2_with fail
    try simp only [List.append]
    refine wp_region_class (Below W0.heap.size W0) (by kernel_rfl) (by kernel_rfl) hS1 ?_
    repeat (go_big_quiet_step ((go_at_call 45;with_reducible exact HA.out _)))
    refine wpQuiet_nil ?_
    intro _ hw';obtain ⟨⟨Wq,hq⟩,hw''⟩:=hw';subst hw'';have hgq:=hid (below_at hq hgx.out hwg);have hbq:=hid (hbx.out.trans (hq.mono hbx.out.size));clear hq hS1 HA hne c0 c1 c2 c3 c4;go_wp2_with fail
    go_roundw
    case rel => exact ⟨j + 2,by go_num,by omega,hgq,hbq⟩
    case measure => simp [intOf];omega
  ·obtain rfl:k = l.length:=by omega
   have hge:¬ ((l.length:Int) < (l.length:Nat)):=by omega
   go_wp2_with fail;refine (HP.out _ (HS.out.below hb.out)).mono ?_
   rintro e w2 ⟨rfl,⟨D,hM,hD⟩,hb2⟩;have hb3:=hid (hb.out.trans (hb2.mono hb.out.size));have hg3:=hid (below_at hb2 hg.out (lt_of_block hg.out));have hMl:=hM.lt;have hlt:=lt_of_block hg.out;generalize wr.heap.size = gm at *;replace hM:=hid hM;replace hD:=hid hD;clear hb2 hb hg
   go_wp2_with (at_range;refine wpList_range_own _ (by rfl) _ 128 (by rfl) 3 3 keyI Tryz.underlying128 _ gm l.length D (by rfl) hM.out ?_;intro w0 hrg0 hgr0 hs0)
   go_frame
   have hle0:=hb3.out.size;have hlr:=hrg0.lt;have hcr0:=hid ((hgr0.block w.heap.size (by omega) (by simp)).trans hg3.out);have hbe0:=hid (hb3.out.grown hgr0 (by omega) (fun j e => by cases e));generalize w2.heap.size = rr at *
   refine wp_loop (fun a' wr => ∃ (u6 u7 u41 u42 u43 u44 u45 u46 u47 u48 u49 u50 u51:Value) (bs:List Nat) (left:Lit → Bool) (cnt:Nat),a' = { tmps:=#[Value.slice a l.length c,undef,Value.pointer (some { block:=w.heap.size,off:=0 }),u3,u4,Value.map (some gm),u6,u7,Value.slice a l.length c,Value.int IntKind.i64 l.length,Value.bool (decide (2000 < (l.length:Int))),Value.slice a l.length c,Value.int IntKind.i64 l.length,Value.int IntKind.i64 l.length,Value.bool false,u15,u16,u17,u18,u19,u20,u21,u22,u23,u24,u25,u26,u27,u28,u29,u30,u31,u32,u33,u34,u35,u36,Value.slice a l.length c,Value.map (some gm),Value.map (some gm),Value.pointer (some { block:=rr,off:=0 }),u41,u42,u43,u44,u45,u46,u47,u48,u49,u50,u51],defers:=marks bs } ∧
    bs.Nodup ∧ Hid (∀ b ∈ bs,rr < b ∧ wr.heap[b]? = some (.deferred (some []))) ∧ Hid (wr.heap[w.heap.size]? = some (.cells #[.bool false] 4 (0,0))) ∧ Hid (RG wr gm rr l.length D left cnt) ∧ Hid (∀ z,left z = true → Maps.has D z = true) ∧ Hid (Below w.heap.size w wr)) (fun _ wr => wr.rangeLeft gm rr) ?start ?round
   case start =>
    exact ⟨_,_,_,_,_,_,_,_,_,_,_,_,_,[],_,_,rfl,List.nodup_nil,hid (fun b h => by simp at h),hcr0,hid hrg0,hid (fun z h => h),hbe0⟩
   case round =>
    rintro a' wr ⟨u6,u7,u41,u42,u43,u44,u45,u46,u47,u48,u49,u50,u51,bs,left,cnt,rfl,hnd,hms,hcr,hrg,hlf,hbe⟩;clear hrg0 hgr0 hs0 hcr0 hbe0 hM hb3 hg3
    go_wp2_with (at_next;refine wpList_next_ranges_ii _ (by rfl) _ (by rfl) 3 3 .i64 .i64 keyI Tryz.underlying3 Tryz.underlying3 gm rr l.length _ _ _ (by rfl) hrg.out ?_ ?_)
    ·intro _ _
     have c1:wr.cell? ⟨w.heap.size,0,none⟩ = some (.bool false):=cell_at hcr.out 0;have f1:wr.frozen? ⟨w.heap.size,0,none⟩ = false:=free_at hcr.out 0;have hc5:Hid ((wr.setCell ⟨w.heap.size,0,none⟩ (.bool true)).heap[w.heap.size]? = some (.cells #[.bool true] 4 (0,0))):=hid ((set_at hcr.out 0 _).trans rfl);have hb5:=hid (hbe.out.setCell (p:=⟨w.heap.size,0,none⟩) (Nat.le_refl _) (.bool true))
     have hm5:Hid (∀ b ∈ bs,w.heap.size < b ∧ (wr.setCell ⟨w.heap.size,0,none⟩ (.bool true)).heap[b]? = some (.deferred (some []))):=hid (fun b hb => by
      obtain ⟨h1,h2⟩:=hms.out b hb
      exact ⟨by omega,(setCell_heap_other (by show b ≠ w.heap.size;omega)).trans h2⟩)
     go_wp2_with fail;refine leaves_marks (fun W => W.heap[w.heap.size]? = some (.cells #[.bool true] 4 (0,0)) ∧ Below w.heap.size w W) (fun b => w.heap.size < b) ?_ ?_ bs _ hnd hm5.out ⟨hc5.out,hb5.out⟩
     ·rintro W b o hb ⟨h1,h2⟩
      exact ⟨(World.putObj_heap_other (by omega)).trans h1,below_put h2 (by omega) o⟩
     ·rintro W ⟨h1,h2⟩
      exact ⟨_,may_results _ _ _ true rfl h1,rfl,h2⟩
    ·intro x y w1 cnt1 hwx hwy hlx hat hrg1 hltc hg1 hs1 hen
     have hex:∃ r ∈ l,r.ch = x ∧ InR x:=by
      have h1:=hlf.out _ hlx;have h2:=hD.out.has_ x;unfold kl at h2;rw [h1] at h2;obtain ⟨p,hp⟩:=Option.isSome_iff_exists.1 h2.symm;obtain ⟨r,hr,e,-⟩:=up_mem hp;exact ⟨r,hr,e,by rw [← e];exact (HR.out r hr).1⟩
     have hab:Hid (above l x x = false):=hid (by obtain ⟨r,hr,rfl,-⟩:=hex;exact HA.out r hr)
     have hix:InR x:=by obtain ⟨r,hr,e,h⟩:=hex;exact h
     have hcr1:=hid ((hg1.block w.heap.size (lt_of_block hcr.out) (fun e => by have:=Option.some.inj e;omega)).trans hcr.out);have hbe1:=hid (hbe.out.grown hg1 hbe.out.size (fun j e => by cases e;omega))
     have hms1:Hid (∀ b ∈ bs,rr < b ∧ b < w1.heap.size ∧ w1.heap[b]? = some (.deferred (some []))):=hid (fun b hb => by
      obtain ⟨h1,h2⟩:=hms.out b hb;have h3:=(hg1.block b (lt_of_block h2) (fun e => by have:=Option.some.inj e;omega)).trans h2
      exact ⟨h1,lt_of_block h3,h3⟩)
     have hrl:Hid (wr.rangeLeft gm rr = cnt):=hid hrg.out.left_eq;have hlf1:Hid (∀ z,(left z && !z.sameKey (.int .i64 x)) = true → Maps.has D z = true):=hid (fun z hz => hlf.out z (by simp only [Bool.and_eq_true] at hz;exact hz.1));have hgl:=hrg1.lt;have hgo:=hrg1.owns.lt;replace hrg1:=hid hrg1;clear hlx hwx hwy hat hg1 hex hms hcr hbe hrg hlf hs1;go_wp2_with fail;refine (ways_any gm x _).mono ?_
     rintro e' w3 ⟨rfl,rfl⟩;go_wp2_with fail;obtain ⟨W3,hW3⟩:∃ W3,((w1.alloc (.cells #[.int .i64 x] 3)).alloc (.cells #[.map (some gm)] 128)).alloc (.cells #[.int .i64 x] 3) = W3:=⟨_,rfl⟩
     have hz3:W3.heap.size = w1.heap.size + 3:=by rw [← hW3];simp
     have hx3:W3.heap[w1.heap.size]? = some (.cells #[.int .i64 x] 3 (0,0)):=by rw [← hW3];exact alloc_at _ (alloc_at _ (alloc_new w1 _))
     have hm3:W3.heap[w1.heap.size + 1]? = some (.cells #[.map (some gm)] 128 (0,0)):=by
      rw [← hW3];have:=alloc_new (w1.alloc (.cells #[.int .i64 x] 3)) (.cells #[.map (some gm)] 128);exact alloc_at _ (by simpa using this)
     have hf3:W3.heap[w1.heap.size + 2]? = some (.cells #[.int .i64 x] 3 (0,0)):=by
      rw [← hW3];have:=alloc_new ((w1.alloc (.cells #[.int .i64 x] 3)).alloc (.cells #[.map (some gm)] 128)) (.cells #[.int .i64 x] 3)
      simpa using this
     have hr3:RG W3 gm rr l.length D (fun z => left z && !z.sameKey (.int .i64 x)) cnt1:=by rw [← hW3];exact ((hrg1.out.alloc _).alloc _).alloc _
     have hs1:=hbe1.out.size
     have hbe3:Below w.heap.size w W3:=by rw [← hW3];exact ((hbe1.out.alloc (by omega) _).alloc (by simp;omega) _).alloc (by simp;omega) _
     have hcr3:W3.heap[w.heap.size]? = some (.cells #[.bool false] 4 (0,0)):=by rw [← hW3];exact alloc_at _ (alloc_at _ (alloc_at _ hcr1.out))
     have hms3:∀ b ∈ bs,W3.heap[b]? = some (.deferred (some [])):=fun b hb => by rw [← hW3];exact alloc_at _ (alloc_at _ (alloc_at _ (hms1.out b hb).2.2))
     have hmb:∀ b ∈ bs,rr < b ∧ b < w1.heap.size:=fun b hb => ⟨(hms1.out b hb).1,(hms1.out b hb).2.1⟩
     rw [hW3];clear hW3 hrg1 hms1 hbe1 hcr1;refine (wpIn_wide (n:=3)).1 ?_
     refine range_box rfl (by decide) (gf:=161) (lb:=#[.pointer (some ⟨w1.heap.size + 1,0,none⟩),.pointer (some ⟨w1.heap.size + 2,0,none⟩)]) rfl trivial (enters_of Tryz.func161 (by kernel_rfl) rfl)
      (ways_gives Fence.wide 2 trivial rfl (by decide) (w1.heap.size + 1) (w1.heap.size + 2) gm l.length D l x (fun k => W3.heap.size ≤ k) (by omega) (fun r h => (HR.out r h).2) hix W3 hm3 hf3 hr3.owns hD.out ⟨by omega,by omega,by omega⟩ ⟨by omega,by omega⟩)
      (by omega) (fun _ => rfl) (fun h k => h.trans k) ?hKr (MayI w bs gm rr l.length D (fun z => left z && !z.sameKey (.int .i64 x)) cnt1 x w1.heap.size (w1.heap.size + 2)) (fun c pre _ => c = .ret ∧ x ∈ pre) ?hIr ?hIb ?hIx ?h0
      (fun y' => { tmps:=#[Value.slice a l.length c,undef,Value.pointer (some { block:=w.heap.size,off:=0 }),u3,u4,Value.map (some gm),Value.pointer (some { block:=w1.heap.size,off:=0 }),.int .i64 y',Value.slice a l.length c,Value.int IntKind.i64 l.length,Value.bool (decide (2000 < (l.length:Int))),Value.slice a l.length c,Value.int IntKind.i64 l.length,Value.int IntKind.i64 l.length,Value.bool false,u15,u16,u17,u18,u19,u20,u21,u22,u23,u24,u25,u26,u27,u28,u29,u30,u31,u32,u33,u34,u35,u36,Value.slice a l.length c,Value.map (some gm),Value.map (some gm),Value.pointer (some { block:=rr,off:=0 }),Value.tuple #[Value.bool true,Value.int IntKind.i64 x,Value.int IntKind.i64 y],Value.bool true,Value.tuple #[Value.int IntKind.i64 x,Value.int IntKind.i64 y],Value.int IntKind.i64 x,Value.map (some gm),Value.int IntKind.i64 x,.func (.func 161) #[] #[.pointer (some ⟨w1.heap.size + 1,0,none⟩),.pointer (some ⟨w1.heap.size + 2,0,none⟩)],.int .i64 y',u49,u50,u51],defers:=[] }) ?assign ?body ?done ?stop
     case hKr => exact fun W o => kept_put (Kept.refl _ W) (fun _ => by omega) o
     case assign =>
      intro l' y' W K hK
      gi_wp2
      simpa using hK
     case hIr =>
      intro pre W o h;exact h.kept (T:=fun k => k = W3.heap.size + 1) (kept_put (T:=fun k => k = W3.heap.size + 1) (Kept.refl _ W) (p:=W3.heap.size + 1) (fun _ => rfl) o) (fun k e => by omega) (by omega) (by omega) (by omega) (by omega) (fun b hb => by have:=hmb b hb;omega)
     case hIb =>
      intro pre W u h;exact h.kept (T:=fun k => k = w1.heap.size + 2) (Kept.setCell (T:=fun k => k = w1.heap.size + 2) (Kept.refl _ W) (p:=⟨w1.heap.size + 2,0,none⟩) (fun _ => rfl) u) (fun k e => by omega) (by omega) (by omega) (by omega) (by omega) (fun b hb => by have:=hmb b hb;omega)
     case hIx => exact fun c pre W o h => h
     case h0 =>
      intro o1 o2;exact ⟨fun y h => by simp at h,alloc_at _ (alloc_at _ hx3),alloc_at _ (alloc_at _ hcr3),(hr3.alloc _).alloc _,fun b hb => alloc_at _ (alloc_at _ (hms3 b hb)),(hbe3.alloc (by omega) _).alloc (by simp;omega) _,by simp;omega⟩
     case body =>
      rintro l' pre z W hI hlen;have c0:W.cell? ⟨w1.heap.size,0,none⟩ = some (.int .i64 x):=cell_at hI.cx 0;have c1:W.cell? ⟨w.heap.size,0,none⟩ = some (.bool false):=cell_at hI.cr 0;have f1:W.frozen? ⟨w.heap.size,0,none⟩ = false:=free_at hI.cr 0;replace hI:=hid hI
      by_cases hx:z = x
      ·subst hx
       gi_wp2_with fail
       exact ⟨⟨by simp [World.setCell],fun k o hk ho _ => (setCell_heap_other (by show k ≠ w.heap.size;omega)).trans ho⟩,rfl,by simp⟩
      ·gi_wp2_with fail
       exact ⟨KeepsFrom.refl _ _,Kept.refl _ _,{ hI.out with ne:=fun y hy => (by
        rw [List.mem_append,List.mem_singleton] at hy
        rcases hy with hy | rfl
        ·exact hI.out.ne y hy
        ·exact hx) }⟩
     case done =>
      rintro xs W hS' hI hDD;have hlo:=hI.lo
      have hnew:W3.heap.size ∉ bs:=fun h => by have:=hmb _ h;omega
      refine And.intro ⟨_,_,_,_,_,_,_,_,_,_,_,_,_,W3.heap.size :: bs,_,cnt1,rfl,List.nodup_cons.2 ⟨hnew,hnd⟩,hid (fun b hb => ?_),hid hI.cr,hid hI.rg,hlf1,hid hI.be⟩ ?_
      ·rcases List.mem_cons.1 hb with rfl | hb
       ·exact ⟨by omega,hDD⟩
       ·exact ⟨(hmb b hb).1,hI.ms b hb⟩
      ·rw [hI.rg.left_eq,hrl.out]
       exact hltc
     case stop =>
      rintro c pre W ⟨k,hk⟩ ⟨rfl,h1⟩ hDD
      exfalso
      have h2:=hab.out;rw [hk] at h1;have h3:=List.mem_of_mem_take h1;unfold above at h2;rw [List.contains_iff_mem.2 h3] at h2
      cases h2
end Tr
end
section
open Go.RowKit
namespace Mem
def Ap (u v:Value):Prop:=∀ k,u.ownBlock = some k → v.ownBlock ≠ some k
theorem Ap.symm {u v:Value} (h:Ap u v):Ap v u:=fun k h1 h2 => h k h2 h1
theorem ap_nil' (u:Value):Ap (.slice none 0 0) u:=fun k h => by cases h
def Near (w:World) (v v':Value):Prop:=∀ k,v'.ownBlock = some k → v.ownBlock = some k ∨ w.heap.size ≤ k
theorem Ap.near {w:World} {u v v':Value} (h:Ap u v) (hn:Near w v v') (hu:∀ k,u.ownBlock = some k → k < w.heap.size):Ap u v':=fun k h1 h2 => by
 rcases hn k h2 with h3 | h3
 ·exact h k h1 h3
 ·have:=hu k h1;omega
def Near2 (w w':World) (v v':Value):Prop:=∀ k,v'.ownBlock = some k → v.ownBlock = some k ∨ (w.heap.size ≤ k ∧ k < w'.heap.size)
theorem near2_refl (w w':World) (v:Value):Near2 w w' v v:=fun _ e => .inl e
theorem Near2.trans {a b c d:World} {u v t:Value} (h:Near2 a b u v) (k:Near2 c d v t) (h1:a.heap.size ≤ c.heap.size) (h2:b.heap.size ≤ d.heap.size):Near2 a d u t:=fun j e => by
 rcases k j e with q | q
 ·rcases h j q with q | q
  ·exact .inl q
  ·exact .inr ⟨q.1,by omega⟩
 ·exact .inr ⟨by omega,q.2⟩
theorem Near2.mono {a b c d:World} {u v:Value} (h:Near2 c d u v) (h1:a.heap.size ≤ c.heap.size) (h2:d.heap.size ≤ b.heap.size):Near2 a b u v:=fun j e => by
 rcases h j e with q | q
 ·exact .inl q
 ·exact .inr ⟨by omega,by omega⟩
theorem near2_own {w w':World} {B:Nat} {e:TypeId} {k n:Nat} {v v':Value} {cs:List Value} (h:w'.ownsRow B e k v' n cs) (hB:w.heap.size ≤ B):Near2 w w' v v':=fun j hj => .inr ⟨Nat.le_trans hB (h.lt j hj).1,(h.lt j hj).2⟩
theorem sl_same {W W':World} {v:Value} {n:Nat} {cs:List Value} (h:Sl W v n cs) (hs:W.heap.size ≤ W'.heap.size) (hsame:∀ k,v.ownBlock = some k → k < W.heap.size → W'.heap[k]? = W.heap[k]?):Sl W' v n cs:=by
 obtain ⟨a,cap,e,h1,h2,h3⟩:=h;refine ⟨a,cap,e,h1,h2,fun h0 => ?_⟩
 obtain ⟨b,off,e1,e2,e3⟩:=h3 h0;subst e1 e;have:=hsame b rfl e2;refine ⟨b,off,rfl,Nat.lt_of_lt_of_le e2 hs,fun j u hu => ?_⟩
 rw [← e3 j u hu];simp only [World.cell?,this]
theorem Ap.kept {w w':World} {u v:Value} {B:Nat} {e:TypeId} {k n:Nat} {cs:List Value} (h:Ap u v) (hO:w.ownsRow B e k u n cs) (hg:w.grownBy w' v.ownBlock):w'.ownsRow B e k u n cs:=
 hO.kept hg (by
  cases hb:u.ownBlock with
  | none => exact .inl rfl
  | some j => exact .inr (fun e => h j hb e.symm))
theorem run_append_near {P:Program} (w:World) (base:Nat) (t ty e:TypeId) (i:TypeInfo) (z:Value) (size bytes:Nat) (ht:P.underlying t = some (.slice e)) (hi:P.info? e = some i) (hz:i.zero = some z)
  (hsize:i.size = size) (hby:i.bytes = bytes) (hzs:z.cells.size = size) (hsz:0 < size)
  (v:Value) (n:Nat) (xs:List Value) (hown:w.ownsRow base e size v n xs)
  (a:Addr) (m c:Nat) (news:List Value) (hl:news.length = m * size) (hnews:∀ j u,news[j]? = some u → w.cell? (a.add j) = some u) (h1:∀ u ∈ news,u.oneCell' = true)
  (h63:n + m ≤ maxLen) (hbytes:(n + m) * bytes ≤ 140737488355328) (hbase:base ≤ w.heap.size) :
  ∃ v' w',(Builtin.append_ #[t,t] ty #[v,.slice (some a) m c]).run P w = .ok v' w' ∧ w'.ownsRow base e size v' (n + m) (xs ++ news) ∧ w.grownBy w' v.ownBlock ∧ Near w v v':=by
 obtain ⟨v',w',hr,h2,h3,-⟩:=run_append_own (P:=P) w base t ty e i z size bytes ht hi hz hsize hby hzs hsz v n xs hown a m c news hl hnews h1 h63 hbytes hbase;refine ⟨v',w',hr,h2,h3,?_⟩
 have hsmall:((n + m:Nat):Int) ≤ 9223372036854775807:=by simp only [maxLen] at h63;omega
 rcases hown.2 with ⟨rfl,rfl⟩ | ⟨g,cap,cur,rfl,hbg,hg,hnc,hcm,hcs,htake⟩
 ·have hx:xs = []:=List.eq_nil_of_length_eq_zero (by simpa using hown.1)
  subst hx;obtain ⟨v2,w2,hr2,k2,-,-⟩:=run_append_own (P:=P) w w.heap.size t ty e i z size bytes ht hi hz hsize hby hzs hsz (.slice none 0 0) 0 [] (World.ownsRow_nil _ _ _ _) a m c news hl hnews h1 h63 hbytes (Nat.le_refl _);rw [hr] at hr2
  cases hr2
  exact fun k hk => .inr (k2.lt k hk).1
 ·by_cases hroom:n + m ≤ cap
  ·have hfit:n * i.size + news.length ≤ cur.size:=by rw [hl,hcs,hsize,← Nat.add_mul];exact Nat.mul_le_mul_right _ hroom
   have hr2:=run_append_room (P:=P) w t ty e i ht hi g n cap cur hg a m c news (by rw [hsize];exact hl) hnews h1 hroom hfit;rw [hr] at hr2
   cases hr2
   exact fun k hk => .inl hk
  ·have hr2:=run_append_grow (P:=P) w t ty e i z ht hi hz ⟨g,0,none⟩ n cap xs (by rw [hsize];exact hown.1) (hown.cells (g:=g) rfl) a m c news (by rw [hsize];exact hl) hnews (by omega) hsmall (growslice_fits (by omega) (by rw [hby];exact hbytes))
   rw [hr] at hr2
   cases hr2
   exact fun k hk => .inr (by cases hk;exact Nat.le_refl _)
theorem wp_append_near {P:Program} {w:World} {o:Oper} {a:Act} {K:Act → World → Prop} {Q:Exit → Act → World → Prop} (s x:Operand) (t:TypeId)
  (ho:o.op = .call { callee:=.builtin .append,args:=#[s,x],argTypes:=#[t,t] })
  (base:Nat) (e:TypeId) (i:TypeInfo) (z:Value) (size bytes:Nat) (ht:P.underlying t = some (.slice e)) (hi:P.info? e = some i) (hz:i.zero = some z)
  (hsize:i.size = size) (hby:i.bytes = bytes) (hzs:z.cells.size = size) (hsz:0 < size)
  (v:Value) (n:Nat) (xs:List Value) (hs:a.eval s = v) (hown:w.ownsRow base e size v n xs)
  (b m c:Nat) (news:List Value) (hx:a.eval x = .slice (some ⟨b,0,none⟩) m c) (hl:news.length = m * size) (hb:w.heap[b]? = some (.cells news.toArray e (0,0))) (h1:∀ u ∈ news,u.oneCell' = true)
  (h63:n + m ≤ maxLen) (hbytes:(n + m) * bytes ≤ 140737488355328) (hbase:base ≤ w.heap.size)
  (h:∀ v' w',Hid (w'.ownsRow base e size v' (n + m) (xs ++ news)) → Hid (w.grownBy w' v.ownBlock) → Hid (Near w v v') → K (a.put o.dst v') w'):o.wp P a w K Q:=by
 obtain ⟨v',w',hr,h2,h3,h4⟩:=run_append_near (P:=P) w base t o.type e i z size bytes ht hi hz hsize hby hzs hsz v n xs hown ⟨b,0,none⟩ m c news hl (fun j u hj => by rw [Addr.add_lit,Nat.zero_add];exact block_cells hb j u (by simpa using hj)) h1 h63 hbytes hbase;unfold Oper.wp execOp;simp only [ho,resolve,invoke,builtin,Sem.run_bind,Sem.run_pure,Result.andThen_ok,List.map_toArray,List.map_cons,List.map_nil,hs,hx,hr];exact h v' w' h2 h3 h4
theorem wpList_append_near {P:Program} {w:World} {ops:Array Oper} {rest:List Oper} {o:Oper} {a:Act} {Q:Exit → Act → World → Prop} (hgd:o.guard = none) (s x:Operand) (t:TypeId)
  (ho:o.op = .call { callee:=.builtin .append,args:=#[s,x],argTypes:=#[t,t] })
  (base:Nat) (e:TypeId) (i:TypeInfo) (z:Value) (size bytes:Nat) (ht:P.underlying t = some (.slice e)) (hi:P.info? e = some i) (hz:i.zero = some z)
  (hsize:i.size = size) (hby:i.bytes = bytes) (hzs:z.cells.size = size) (hsz:0 < size)
  (v:Value) (n:Nat) (xs:List Value) (hs:a.eval s = v) (hown:w.ownsRow base e size v n xs)
  (b m c:Nat) (news:List Value) (hx:a.eval x = .slice (some ⟨b,0,none⟩) m c) (hl:news.length = m * size) (hb:w.heap[b]? = some (.cells news.toArray e (0,0))) (h1:∀ u ∈ news,u.oneCell' = true)
  (h63:n + m ≤ maxLen) (hbytes:(n + m) * bytes ≤ 140737488355328) (hbase:base ≤ w.heap.size)
  (h:∀ v' w',Hid (w'.ownsRow base e size v' (n + m) (xs ++ news)) → Hid (w.grownBy w' v.ownBlock) → Hid (Near w v v') → wpList P ops Q rest (a.put o.dst v') w'):wpList P ops Q (o :: rest) a w:=
 wpList_plain hgd fun _ hK => wp_append_near s x t ho base e i z size bytes ht hi hz hsize hby hzs hsz v n xs hs hown b m c news hx hl hb h1 h63 hbytes hbase fun v' w' h2 h3 h4 => hK _ _ (h v' w' h2 h3 h4)
theorem step_append_near {P:Program} {w:World} {ops:Array Oper} {o:Oper} {a:Act} {K:Act → World → Prop} {Q:Exit → Act → World → Prop} {E:Prop} (hgd:o.guard = none) (s x:Operand) (t:TypeId)
  (ho:o.op = .call { callee:=.builtin .append,args:=#[s,x],argTypes:=#[t,t] })
  (base:Nat) (e:TypeId) (i:TypeInfo) (z:Value) (size bytes:Nat) (ht:P.underlying t = some (.slice e)) (hi:P.info? e = some i) (hz:i.zero = some z)
  (hsize:i.size = size) (hby:i.bytes = bytes) (hzs:z.cells.size = size) (hsz:0 < size)
  (v:Value) (n:Nat) (xs:List Value) (hs:a.eval s = v) (hown:w.ownsRow base e size v n xs)
  (b m c:Nat) (news:List Value) (hx:a.eval x = .slice (some ⟨b,0,none⟩) m c) (hl:news.length = m * size) (hb:w.heap[b]? = some (.cells news.toArray e (0,0))) (h1:∀ u ∈ news,u.oneCell' = true)
  (h63:n + m ≤ maxLen) (hbytes:(n + m) * bytes ≤ 140737488355328) (hbase:base ≤ w.heap.size)
  (h:∀ v' w',Hid (w'.ownsRow base e size v' (n + m) (xs ++ news)) → Hid (w.grownBy w' v.ownBlock) → Hid (Near w v v') → K (a.put o.dst v') w') :
  if Region.wanted o (yielded ops a.tmps) = true then Oper.wp P o a w K Q else E:=by
 have hw:Region.wanted o (yielded ops a.tmps) = true:=by simp [Region.wanted,hgd]
 rw [if_pos hw];exact wp_append_near s x t ho base e i z size bytes ht hi hz hsize hby hzs hsz v n xs hs hown b m c news hx hl hb h1 h63 hbytes hbase h
end Mem
end
section
open Go.RowKit
namespace Fl
def cmpI (x y:Int):Int:=if x < y then -1 else if y < x then 1 else 0
theorem cmpI_lt {x y:Int} (h:x < y):cmpI x y = -1:=by unfold cmpI;rw [if_pos h]
theorem cmpI_gt {x y:Int} (h:y < x):cmpI x y = 1:=by unfold cmpI;rw [if_neg (by omega),if_pos h]
theorem cmpI_eq (x:Int):cmpI x x = 0:=by unfold cmpI;rw [if_neg (by omega),if_neg (by omega)]
theorem cmpI_cases (x y:Int):(cmpI x y = -1 ∧ x < y) ∨ (cmpI x y = 1 ∧ y < x) ∨ (cmpI x y = 0 ∧ x = y):=by
 rcases Int.lt_trichotomy x y with h | h | h
 ·exact .inl ⟨cmpI_lt h,h⟩
 ·exact .inr (.inr ⟨by rw [h];exact cmpI_eq y,h⟩)
 ·exact .inr (.inl ⟨cmpI_gt h,h⟩)
def either (a b:Int):Int:=if a = 0 then b else a
theorem cmpI_any (x y:Int) (w:World) :
  Calls Tryz.prog 77 #[.int .i64 x,.int .i64 y] w fun e w' => e = .returned (.int .i64 (cmpI x y)) ∧ w = w':=by
 rcases cmpI_cases x y with ⟨h,h'⟩ | ⟨h,h'⟩ | ⟨h,rfl⟩
 ·rw [h]
  clear h;go_enter Tryz.func77,Tryz.ntmps77;go_wp2;go_ret;exact ⟨rfl,rfl⟩
 ·rw [h]
  clear h;go_enter Tryz.func77,Tryz.ntmps77;go_wp2;go_ret;exact ⟨rfl,rfl⟩
 ·rw [h]
  clear h;go_enter Tryz.func77,Tryz.ntmps77;go_wp2;go_ret;exact ⟨rfl,rfl⟩
theorem bcell {W w1:World} (hb:Below W.heap.size W w1):(∀ b o,b < W.heap.size → w1.cell? ⟨b,o,none⟩ = W.cell? ⟨b,o,none⟩) ∧ (∀ b o,b < W.heap.size → w1.frozen? ⟨b,o,none⟩ = W.frozen? ⟨b,o,none⟩):=
 ⟨fun b o h => hb.cell (p:=⟨b,o,none⟩) h,fun b o h => hb.frozen (p:=⟨b,o,none⟩) h⟩
theorem first_any (f1 f2:Nat) (cap:Array Value) (c1 c2:Int) (bs:Nat) (w:World) (hbs:bs < w.heap.size)
  (h0:w.cell? ⟨bs,0,none⟩ = some (.func (.func f1) #[] cap)) (h1:w.cell? ⟨bs,1,none⟩ = some (.func (.func f2) #[] cap))
  (E1:∀ w1,(callFunc f1 cap).run Tryz.prog w1 = .ok (.enter f1 cap) w1) (E2:∀ w1,(callFunc f2 cap).run Tryz.prog w1 = .ok (.enter f2 cap) w1)
  (F1:∀ w1,Below w.heap.size w w1 → Calls Tryz.prog f1 cap w1 fun e w' => e = .returned (.int .i64 c1) ∧ Below w1.heap.size w1 w')
  (F2:∀ w1,Below w.heap.size w w1 → Calls Tryz.prog f2 cap w1 fun e w' => e = .returned (.int .i64 c2) ∧ Below w1.heap.size w1 w') :
  Calls Tryz.prog 75 #[.slice (some ⟨bs,0,none⟩) 2 2] w fun e w' => e = .returned (.int .i64 (either c1 c2)) ∧ Below w.heap.size w w':=by
 have HF1:=hid F1;have HF2:=hid F2;have H0:=hid h0;have H1:=hid h1;clear F1 F2 h0 h1;obtain ⟨c,hc⟩:∃ c,either c1 c2 = c:=⟨_,rfl⟩;rw [hc];have HC:=hid hc;clear hc;go_enter Tryz.func75,Tryz.ntmps75;go_wp2_with fail
 go_loopw [8] (fun i wr => ∃ k:Nat,k ≤ 2 ∧ i = .int .i64 k ∧ Hid (0 < k → c1 = 0) ∧ Hid (1 < k → c2 = 0) ∧ Below w.heap.size w wr) (fun i _ => 2 - (intOf i).toNat)
 case atStart => exact ⟨0,by omega,rfl,hid (fun h => by omega),hid (fun h => by omega),Below.refl _ _⟩
 case round =>
  obtain ⟨k,hk,rfl,z1,z2,hb⟩:=hrel
  rcases (show k = 0 ∨ k = 1 ∨ k = 2 by omega) with rfl | rfl | rfl
  ·have hc:=(hb.cell (p:=⟨bs,0,none⟩) hbs).trans H0.out
   go_wp2_with fail;refine (HF1.out _ hb).mono ?_
   rintro e w2 ⟨rfl,hb2⟩;have hb3:=hb.trans (hb2.mono hb.size)
   by_cases hz:c1 = 0
   ·have hz':(c1 != 0) = false:=by rw [hz];rfl
    have HZ:=hid hz;clear hz;go_wp2_with fail
    go_roundw
    case rel => exact ⟨1,by omega,rfl,hid (fun _ => HZ.out),hid (fun h => by omega),hb3⟩
    case measure => simp [intOf]
   ·have hz':(c1 != 0) = true:=by rw [bne_iff_ne];exact hz
    have E:Hid (either c1 c2 = c1):=hid (by unfold either;rw [if_neg hz]);clear hz;go_wp2_with fail;go_ret;exact ⟨by rw [← HC.out,E.out];rfl,hb3⟩
  ·have hc:=(hb.cell (p:=⟨bs,1,none⟩) hbs).trans H1.out
   have E:Hid (either c1 c2 = c2):=hid (by unfold either;rw [if_pos (z1.out (by omega))]);go_wp2_with fail;refine (HF2.out _ hb).mono ?_
   rintro e w2 ⟨rfl,hb2⟩;have hb3:=hb.trans (hb2.mono hb.size)
   by_cases hz:c2 = 0
   ·have hz':(c2 != 0) = false:=by rw [hz];rfl
    have HZ:=hid hz;clear hz;go_wp2_with fail
    go_roundw
    case rel => exact ⟨2,by omega,rfl,hid (fun _ => z1.out (by omega)),hid (fun _ => HZ.out),hb3⟩
    case measure => simp [intOf]
   ·have hz':(c2 != 0) = true:=by rw [bne_iff_ne];exact hz
    clear hz;go_wp2_with fail;go_ret;exact ⟨by rw [← HC.out,E.out];rfl,hb3⟩
  ·have E:Hid (either c1 c2 = 0):=hid (by unfold either;rw [if_pos (z1.out (by omega)),z2.out (by omega)])
   go_wp2_with fail;go_ret;exact ⟨by rw [← HC.out,E.out];rfl,hb⟩
theorem before1_any (p q:Nat) (x y:Int) (w:World) (hp:w.cell? ⟨p,0,none⟩ = some (.int .i64 x)) (hq:w.cell? ⟨q,0,none⟩ = some (.int .i64 y)) :
  Calls Tryz.prog 76 #[.pointer (some ⟨p,0,none⟩),.pointer (some ⟨q,0,none⟩)] w fun e w' => e = .returned (.int .i64 (cmpI x y)) ∧ w = w':=by
 go_enter Tryz.func76,Tryz.ntmps76;go_wp2_with fail;refine (cmpI_any _ _ _).mono ?_
 rintro e w' ⟨rfl,rfl⟩;go_wp2_with fail;go_ret;exact ⟨rfl,rfl⟩
theorem before2_any (p q:Nat) (x y:Int) (w:World) (hp:w.cell? ⟨p,1,none⟩ = some (.int .i64 x)) (hq:w.cell? ⟨q,1,none⟩ = some (.int .i64 y)) :
  Calls Tryz.prog 78 #[.pointer (some ⟨p,0,none⟩),.pointer (some ⟨q,0,none⟩)] w fun e w' => e = .returned (.int .i64 (cmpI x y)) ∧ w = w':=by
 go_enter Tryz.func78,Tryz.ntmps78;go_wp2_with fail;refine (cmpI_any _ _ _).mono ?_
 rintro e w' ⟨rfl,rfl⟩;go_wp2_with fail;go_ret;exact ⟨rfl,rfl⟩
def ahead (a b c d:Int):Bool:=decide (either (cmpI a c) (cmpI b d) < 0)
theorem enterB1 (args:Array Value) (w:World):(callFunc 76 args).run Tryz.prog w = .ok (.enter 76 args) w:=by simp [go_sem]
theorem enterB2 (args:Array Value) (w:World):(callFunc 78 args).run Tryz.prog w = .ok (.enter 78 args) w:=by simp [go_sem]
theorem before_any (a b c d:Int) (w:World) :
  Calls Tryz.prog 38 #[.agg #[.int .i64 a,.int .i64 b],.agg #[.int .i64 c,.int .i64 d]] w fun e w' => e = .returned (.bool (ahead a b c d)) ∧ Below w.heap.size w w':=by
 have hmf:∀ (fn:Fn) (first cap:Array Value) (w:World),(Instr.makeFunc fn first cap).run Tryz.prog w = .ok (.func fn first cap) w:=fun _ _ _ _ => rfl
 unfold ahead;generalize hx:either (cmpI a c) (cmpI b d) = x;have HX:=hid hx;clear hx;go_enter Tryz.func38,Tryz.ntmps38;go_wp2_with fail;refine (first_any 76 78 #[.pointer (some ⟨w.heap.size,0,none⟩),.pointer (some ⟨w.heap.size + 1,0,none⟩)] (cmpI a c) (cmpI b d) (w.heap.size + 1 + 1) _ (by simp) (by simp [go_sem]) (by simp [go_sem]) (fun _ => enterB1 _ _) (fun _ => enterB2 _ _) ?_ ?_).mono ?_
 ·intro w1 hb
  obtain ⟨hc,_⟩:=bcell hb;refine (before1_any w.heap.size (w.heap.size + 1) a c w1 ?_ ?_).mono ?_
  ·rw [hc _ _ (by simp;omega)];simp [go_sem]
  ·rw [hc _ _ (by simp)];simp [go_sem]
  ·rintro e w' ⟨rfl,rfl⟩
   exact ⟨rfl,Below.refl _ _⟩
 ·intro w1 hb
  obtain ⟨hc,_⟩:=bcell hb;refine (before2_any w.heap.size (w.heap.size + 1) b d w1 ?_ ?_).mono ?_
  ·rw [hc _ _ (by simp;omega)];simp [go_sem]
  ·rw [hc _ _ (by simp)];simp [go_sem]
  ·rintro e w' ⟨rfl,rfl⟩
   exact ⟨rfl,Below.refl _ _⟩
 rintro e w1 ⟨rfl,hb⟩;rw [HX.out];go_wp2_with fail;go_ret;exact ⟨rfl,(((Below.refl _ _).alloc (Nat.le_refl _) _).alloc (by simp) _ |>.alloc (by simp;omega) _).trans (hb.mono (by simp;omega))⟩
theorem ahead_lt {a b c d:Int} (h:a < c):ahead a b c d = true:=by unfold ahead either;rw [cmpI_lt h];rfl
theorem ahead_gt {a b c d:Int} (h:c < a):ahead a b c d = false:=by unfold ahead either;rw [cmpI_gt h];rfl
theorem ahead_eq {a b d:Int}:ahead a b a d = decide (b < d):=by
 unfold ahead either;rw [cmpI_eq,if_pos rfl]
 rcases cmpI_cases b d with ⟨h,h'⟩ | ⟨h,h'⟩ | ⟨h,h'⟩ <;> rw [h,Bool.eq_iff_iff,decide_eq_true_iff,decide_eq_true_iff] <;> omega
theorem rbefore_any (a b c d:Int) (w:World) :
  Calls Tryz.prog 20 #[.agg #[.int .i64 a,.int .i64 b],.agg #[.int .i64 c,.int .i64 d]] w fun e w' => e = .returned (.bool (ahead a b c d)) ∧ Below w.heap.size w w':=by
 rcases Int.lt_trichotomy a c with h | rfl | h
 ·rw [ahead_lt h]
  go_enter Tryz.func20,Tryz.ntmps20;go_wp2_with fail;go_ret;exact ⟨rfl,((Below.refl _ _).alloc (Nat.le_refl _) _).alloc (by simp) _⟩
 ·rw [ahead_eq]
  have h0:decide (a < a) = false:=by rw [decide_eq_false_iff_not];omega
  have h1:(a == a) = true:=beq_self_eq_true a;go_enter Tryz.func20,Tryz.ntmps20;go_wp2_with fail;go_ret;exact ⟨rfl,((Below.refl _ _).alloc (Nat.le_refl _) _).alloc (by simp) _⟩
 ·rw [ahead_gt h]
  have h0:decide (a < c) = false:=by rw [decide_eq_false_iff_not];omega
  have h1:(a == c) = false:=by rw [beq_eq_false_iff_ne];omega
  go_enter Tryz.func20,Tryz.ntmps20;go_wp2_with fail;go_ret;exact ⟨rfl,((Below.refl _ _).alloc (Nat.le_refl _) _).alloc (by simp) _⟩
end Fl
end
end Go.Proofs.YtnlijlknjhkoaaaGreat
