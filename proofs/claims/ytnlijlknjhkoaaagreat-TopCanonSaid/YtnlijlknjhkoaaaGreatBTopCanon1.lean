/-
  PART 1 of what law TopCanon leans on: plain lemmas and walks, of which each says its own condition.
-/
import Derived.Test.YtnlijlknjhkoaaaGreatP5
import Derived.Test.YtnlijlknjhkoaaaGreatRows
import Derived.WalkKit
import Derived.WalkSpells
import Derived.WalkLawsBesides
import Derived.Lib.Hide
import Derived.KernelRfl
import Derived.OneCell
import Derived.Laws.BytesArg
import Derived.Laws.IdiomStrings
import Derived.RangeFuncBox
import Derived.RangeFuncLeaves
import Derived.Laws.AppendOwnNone
import Derived.RegionTactic
import Derived.Laws.OwnMore
import Derived.Laws.CopyOwn
import Derived.ProofKit
import Derived.OpenShut
import Derived.Below
import Derived.Shelf.Small.Wraps
import Derived.Shelf.Strings.BuilderK
import Derived.Shelf.Slices.Turned
import Derived.Shelf.Bits.Mul64
import Derived.Test.YtnlijlknjhkoaaaGreatChecked
import Derived.OwnWalk
import Derived.Deep.RegionHeld3
import Derived.Outline
import Derived.Lib.Overlaps
import Derived.Lib.AppendZerosOnto
import Derived.Laws.Externs
import Derived.Laws.NewBlocks
import Derived.Deep.MidRow
import Derived.Laws.EntriesVeiled
import Derived.WalkMore
import Ieee.Arith
import GoSem.Core.Float
import Derived.Deep.WholeRow
import Derived.Deep.Cut
import Derived.Maps.OwnSet
import Derived.Maps.OwnOps
import Derived.Maps.OwnIn
import Derived.Shelf.Abstract
import Derived.OwnWalkIn
import Derived.TacticsInMore
import Derived.LoopNIn
import Derived.LoopIn
import Derived.RangeFuncCalls
import Derived.RangeFuncRecord
import Derived.Deep.QuietTactic
import Derived.BigQuiet
import Derived.Maps.RangeWalk
import Derived.Laws.ResultCell
import Derived.Deep.DeepCutAuto
import Derived.Defers
import Derived.Recover
import Derived.Lib.Strings
import Derived.Lib.Builder
import Derived.RangeFuncOwn
import Derived.Lib.AppendStr
import Derived.Deep.SlicePairs
import Derived.Laws.BitsAllLaws
import Derived.IntWalk
import Derived.Deep.Slices
import Derived.Deep.AppendLies
import Derived.Deep.RegionLaw
import Derived.Lib.AppendZeros
import Derived.ShutString
import Derived.ChangeOld
open Go.Lib (hid)
set_option maxRecDepth 100000
set_option maxHeartbeats 16000000
namespace Go.Proofs.YtnlijlknjhkoaaaGreat
section
namespace Opened
variable {P:Program} {W:World} {r:Reach} {b:Nat} {t:TypeId} {v:Value}
theorem ok_int {k:IntKind} (ht:P.underlying t = some (.int k)) (h:Value.okWide P W r b t v):∃ n,v = .int k n ∧ k.min ≤ n ∧ n ≤ k.max:=
 cell_int ht (by simpa only [Value.okWide,ht] using h)
end Opened
end
section
open Go.RowKit Go.Shelf
attribute [local go_sem] Fl.run_store_float
namespace Pl
open Mem Tp Tr Mo Fo Sn Og St
theorem file_any {base p b:Nat} {vp:Value} {xs:List X3} {pool:List Mv} (w:World) (hP:PW w base p b vp xs pool) (k:Nat) (x:X3) (hx:xs[k]? = some x) (hO:OkR x.2) :
  Calls Tryz.prog 28 #[.pointer (some ⟨p,0,none⟩),.int .i64 ((k:Int) + 1)] w fun e w' => e = .returned (.tuple #[.string (fileS x.2),.int .i64 0]) ∧ Below w.heap.size w w':=by
 have hX:=hP.rep x (List.mem_of_getElem? hx);have HR:=hid (replica_any w hP k x hx);have HS:=hid (fun W (h:RepX W x) => save_any x.1.b x.1.l x.1.m x.2 W h hO.w hO.k hO.f);obtain ⟨f,hf⟩:∃ f,fileS x.2 = f:=⟨_,rfl⟩;rw [hf] at HS ⊢;obtain ⟨ab,kb,eb⟩:=hX.b.len;obtain ⟨al,kl,el⟩:=hX.l.len;obtain ⟨am,km,em⟩:=hX.m.len;obtain ⟨⟨vb,vl,vm⟩,r⟩:=x;simp only at eb el em hf;subst eb el em;unfold rpV repV at HR;unfold repV at HS;replace hX:=hid hX;replace hf:=hid hf;clear hP hx hO;go_enter Tryz.func28,Tryz.ntmps28;go_wp2_with fail;refine HR.out.mono ?_
 rintro e w1 ⟨rfl,b1⟩;have g2:=alloc_new w1 (.cells #[.slice ab r.base.length kb,.int .i64 r.fl.c,.int .i64 r.fl.r,.slice al r.log.length kl,.slice am r.mks.length km] 34);have b2:=b1.alloc b1.size (.cells #[.slice ab r.base.length kb,.int .i64 r.fl.c,.int .i64 r.fl.r,.slice al r.log.length kl,.slice am r.mks.length km] 34);have HS2:=hid (HS.out _ (RepW.below hX.out b2));replace g2:=hid g2;replace b2:=hid b2;clear b1
 have c0:(w1.alloc (.cells #[.slice ab r.base.length kb,.int .i64 r.fl.c,.int .i64 r.fl.r,.slice al r.log.length kl,.slice am r.mks.length km] 34)).cell? ⟨w1.heap.size,0,none⟩ = some (.slice ab r.base.length kb):=cell_at g2.out 0;have c1:(w1.alloc (.cells #[.slice ab r.base.length kb,.int .i64 r.fl.c,.int .i64 r.fl.r,.slice al r.log.length kl,.slice am r.mks.length km] 34)).cell? ⟨w1.heap.size,1,none⟩ = some (.int .i64 r.fl.c):=cell_at g2.out 1
 have c2:(w1.alloc (.cells #[.slice ab r.base.length kb,.int .i64 r.fl.c,.int .i64 r.fl.r,.slice al r.log.length kl,.slice am r.mks.length km] 34)).cell? ⟨w1.heap.size,2,none⟩ = some (.int .i64 r.fl.r):=cell_at g2.out 2;have c3:(w1.alloc (.cells #[.slice ab r.base.length kb,.int .i64 r.fl.c,.int .i64 r.fl.r,.slice al r.log.length kl,.slice am r.mks.length km] 34)).cell? ⟨w1.heap.size,3,none⟩ = some (.slice al r.log.length kl):=cell_at g2.out 3
 have c4:(w1.alloc (.cells #[.slice ab r.base.length kb,.int .i64 r.fl.c,.int .i64 r.fl.r,.slice al r.log.length kl,.slice am r.mks.length km] 34)).cell? ⟨w1.heap.size,4,none⟩ = some (.slice am r.mks.length km):=cell_at g2.out 4;go_wp2_with fail;refine HS2.out.mono ?_
 rintro e w3 ⟨rfl,b3⟩;have b4:=hid (b2.out.trans (b3.mono b2.out.size));clear b3 c0 c1 c2 c3 c4;go_wp2_with fail;go_ret2;exact ⟨rfl,b4.out⟩
end Pl
end
section
open Go.RowKit Go.Shelf
namespace Cn
open Mem Tp Tr Mo Fo Sn Og St Pl Iv Rf
theorem calls_det {P:Program} {f:FuncId} {args:Array Value} {w:World} {R1 R2:Ending → World → Prop} (h1:Calls P f args w R1) (h2:Calls P f args w R2) (r1:∀ e w',R1 e w' → ∃ v,e = .returned v) (r2:∀ e w',R2 e w' → ∃ v,e = .returned v) (hi:P.inits.idxOf? f = none) :
  ∃ v w',R1 (.returned v) w' ∧ R2 (.returned v) w':=by
 obtain ⟨e1,w1,fr1,k1,c1,f1,l1⟩:=h1 [];obtain ⟨e2,w2,fr2,k2,c2,f2,l2⟩:=h2 [];obtain ⟨v1,rfl⟩:=r1 _ _ k1;obtain ⟨v2,rfl⟩:=r2 _ _ k2;have s1:=step_leave_done l1 (by rw [f1];exact hi);have s2:=step_leave_done l2 (by rw [f2];exact hi);obtain ⟨n1,hn1⟩:=c1;obtain ⟨n2,hn2⟩:=c2
 have a1:∀ k,runN P (k + 1) (lone fr1 [] w1) = .ended (.done v1) w1:=fun k => by simp only [runN,s1]
 have a2:∀ k,runN P (k + 1) (lone fr2 [] w2) = .ended (.done v2) w2:=fun k => by simp only [runN,s2]
 have q1:runN P (n1 + (n2 + 1)) (lone (Frame.enter P f args .normal) [] w) = .ended (.done v1) w1:=by
  rw [runN_add,hn1];exact a1 n2
 have q2:runN P (n2 + (n1 + 1)) (lone (Frame.enter P f args .normal) [] w) = .ended (.done v2) w2:=by
  rw [runN_add,hn2];exact a2 n1
 rw [show n1 + (n2 + 1) = n2 + (n1 + 1) by omega,q2] at q1
 cases q1
 exact ⟨v1,w1,k1,k2⟩
theorem flat_inj {α:Type} {f:α → List Value} {k:Nat} (hf:∀ x,(f x).length = k) (hi:∀ x y,f x = f y → x = y) {W:World} {v:Value} {l l':List α} (h:Sl W v l.length (l.flatMap f)) (h':Sl W v l'.length (l'.flatMap f)):l = l':=by
 obtain ⟨a,cap,e,-,-,g⟩:=h;obtain ⟨a',cap',e',-,-,g'⟩:=h';rw [e] at e';simp only [Value.slice.injEq] at e';obtain ⟨rfl,hlen,-⟩:=e'
 refine List.ext_getElem? fun j => ?_
 by_cases hj:j < l.length
 ·have hj':j < l'.length:=by omega
  obtain ⟨b,off,e1,-,c⟩:=g (by omega);obtain ⟨b',off',e2,-,c'⟩:=g' (by omega);rw [e1] at e2
  cases e2
  rw [List.getElem?_eq_getElem hj,List.getElem?_eq_getElem hj'];refine congrArg some (hi _ _ (List.ext_getElem? fun i => ?_))
  by_cases hik:i < k
  ·have u:=flat_at hf l j _ (List.getElem?_eq_getElem hj) i hik
   have u':=flat_at hf l' j _ (List.getElem?_eq_getElem hj') i hik;obtain ⟨x,hx⟩:∃ x,(f l[j])[i]? = some x:=⟨_,List.getElem?_eq_getElem (show i < (f l[j]).length by rw [hf];exact hik)⟩;obtain ⟨y,hy⟩:∃ y,(f l'[j])[i]? = some y:=⟨_,List.getElem?_eq_getElem (show i < (f l'[j]).length by rw [hf];exact hik)⟩;rw [hx] at u ⊢;rw [hy] at u' ⊢;exact (c _ _ u).symm.trans (c' _ _ u')
  ·rw [List.getElem?_eq_none (by rw [hf];omega),List.getElem?_eq_none (by rw [hf];omega)]
 ·rw [List.getElem?_eq_none (by omega),List.getElem?_eq_none (by omega)]
theorem rowC_inj (x y:Rw) (h:rowC x = rowC y):x = y:=by
 obtain ⟨a,b,c,d⟩:=x;obtain ⟨a',b',c',d'⟩:=y
 simpa [rowC] using h
theorem movC_inj (x y:Mv) (h:movC x = movC y):x = y:=by
 obtain ⟨⟨a,a2⟩,b,c,d,e⟩:=x;obtain ⟨⟨a',a2'⟩,b',c',d',e'⟩:=y
 simpa [movC,and_assoc] using h
theorem mkC_inj (x y:Mk) (h:mkC x = mkC y):x = y:=by
 obtain ⟨a,b⟩:=x;obtain ⟨a',b'⟩:=y
 simpa [mkC] using h
theorem rep_inj {W:World} {vb vl vm:Value} {r q:Rp} (h:RepW W vb vl vm r) (k:RepW W vb vl vm q) (hf:r.fl = q.fl):r = q:=by
 obtain ⟨a,b,c,d⟩:=r;obtain ⟨a',b',c',d'⟩:=q;obtain rfl:=flat_inj rowC_len rowC_inj h.b k.b;obtain rfl:=flat_inj movC_len movC_inj h.l k.l;obtain rfl:=flat_inj mkC_len mkC_inj h.m k.m;obtain rfl:b = b':=hf
 rfl
theorem noInit:Tryz.prog.inits.idxOf? 31 = none:=by kernel_rfl
theorem file_inj (w:World) {r q:Rp} (hr:OkR r) (hq:OkR q) (h:fileS r = fileS q):sameP r q = true:=by
 have h1:=load_ok r w hr.w hr.k hr.f hr.z;have h2:=load_ok q w hq.w hq.k hq.f hq.z;rw [h] at h1;obtain ⟨v,w',⟨⟨vb,vl,vm,r',e,hR,eR,-⟩,-⟩,⟨⟨vb2,vl2,vm2,q',e2,hQ,eQ,-⟩,-⟩⟩:=calls_det h1 h2 (fun _ _ ⟨⟨_,_,_,_,e,_⟩,_⟩ => ⟨_,e⟩) (fun _ _ ⟨⟨_,_,_,_,e,_⟩,_⟩ => ⟨_,e⟩) noInit;have e3:=e.symm.trans e2;unfold repV at e3;simp only [Ending.returned.injEq,Value.tuple.injEq,Array.mk.injEq,List.cons.injEq,Value.agg.injEq,Value.int.injEq,true_and,and_true] at e3;obtain ⟨rfl,f1,f2,rfl,rfl⟩:=e3
 have hfl:r'.fl = q'.fl:=by
  cases hx:r'.fl
  cases hy:q'.fl
  rw [hx] at f1 f2;rw [hy] at f1 f2;simp only at f1 f2;rw [f1,f2]
 obtain rfl:=rep_inj hR hQ hfl;exact sameP_eq.2 ⟨eR.b.1.symm.trans eQ.b.1,eR.f.symm.trans eQ.f,eR.l.1.symm.trans eQ.l.1,eR.m.symm.trans eQ.m⟩
theorem some_canon (zs:List Nat):someL zs = (zs.map Fl.canon).map fun z => z != 0:=by unfold someL;rw [List.map_map];rfl
theorem rest_canon (zs:List Nat):(restL zs).map Fl.canon = (zs.map Fl.canon).filter fun z => z != 0:=by
 unfold restL;rw [List.filter_map]
 rfl
theorem encR_canon:∀ (l l':List Nat) (p:Nat),l.map Fl.canon = l'.map Fl.canon → Rl.encR p l = Rl.encR p l'
 | [],[],_,_ => rfl
 | [],_ :: _,_,h => by simp at h
 | _ :: _,[],_,h => by simp at h
 | a :: l,b :: l',p,h => by
  simp only [List.map_cons,List.cons.injEq] at h;rw [Rl.encR,Rl.encR,h.1,encR_canon l l' _ h.2]
theorem ranks_canon {l l':List Nat} (h:l.map Fl.canon = l'.map Fl.canon):ranksL l = ranksL l':=by
 unfold ranksL;rw [some_canon,some_canon,h,encR_canon (restL l) (restL l') 0 (by rw [rest_canon,rest_canon,h])]
theorem map_of {α β γ:Type} {f:α → β} {g:α → γ} {k:β → γ} (hk:∀ x,g x = k (f x)) {l l':List α} (h:l.map f = l'.map f):l.map g = l'.map g:=by
 rw [show g = k ∘ f from funext hk,← List.map_map,h,List.map_map]
theorem opC_nrm {l l':List Mv} (h:l.map nrmM = l'.map nrmM):opC l = opC l':=by
 have hl:l.length = l'.length:=by have:=congrArg List.length h;simpa using this
 unfold opC
 rw [hl,map_of (g:=fun m:Mv => m.t.c) (k:=fun m => m.t.c) (fun _ => rfl) h,map_of (g:=fun m:Mv => m.t.r.toNat) (k:=fun m => m.t.r.toNat) (fun _ => rfl) h,map_of (g:=fun m:Mv => m.pa) (k:=fun m => m.pa) (fun _ => rfl) h,map_of (g:=fun m:Mv => m.ch) (k:=fun m => m.ch) (fun _ => rfl) h,map_of (g:=fun m:Mv => m.nm) (k:=fun m => m.nm) (fun _ => rfl) h,
  ranks_canon (l:=l.map (·.rk)) (l':=l'.map (·.rk)) (by rw [List.map_map,List.map_map];exact map_of (k:=fun m => m.rk) (fun _ => rfl) h)]
theorem colsB_rows {l l':List Rw} (h:l.map nrmR = l'.map nrmR):colsB (rowsC l) = colsB (rowsC l'):=by
 have hl:l.length = l'.length:=by have:=congrArg List.length h;simpa using this
 unfold rowsC colsB;simp only [List.flatMap_cons,List.flatMap_nil,colB]
 rw [hl,map_of (g:=fun m:Rw => m.ch) (k:=fun m => m.ch) (fun _ => rfl) h,map_of (g:=fun m:Rw => m.pa) (k:=fun m => m.pa) (fun _ => rfl) h,map_of (g:=fun m:Rw => m.nm) (k:=fun m => m.nm) (fun _ => rfl) h,
  ranks_canon (l:=l.map (·.rk)) (l':=l'.map (·.rk)) (by rw [List.map_map,List.map_map];exact map_of (k:=fun m => m.rk) (fun _ => rfl) h)]
theorem file_nrm {r q:Rp} (h:sameP r q = true):fileS r = fileS q:=by
 obtain ⟨h1,h2,h3,h4⟩:=sameP_eq.1 h;unfold fileS allC sepC;rw [opC_nrm h3,colsB_rows h1,h2,h4]
theorem file_same (w:World) {r q:Rp} (hr:OkR r) (hq:OkR q):decide (fileS r = fileS q) = sameP r q:=by
 by_cases h:fileS r = fileS q
 ·rw [decide_eq_true h,file_inj w hr hq h]
 ·rw [decide_eq_false h]
  cases e:sameP r q with
  | false => rfl
  | true => exact absurd (file_nrm e) h
theorem zero_same {j i:Nat} {r q:Rp} (hr:InvR j r) (hq:InvR i q) (h1:r.fl = ⟨0,0⟩) (h2:q.fl = ⟨0,0⟩) (h:r.log.map nrmM = q.log.map nrmM):sameP r q = true:=by
 obtain ⟨b1,m1⟩:=hr.zero h1;obtain ⟨b2,m2⟩:=hq.zero h2;refine sameP_eq.2 ⟨by rw [b1,b2],h1.trans h2.symm,h,?_⟩
 rw [m1,m2,ofM_t,ofM_t,nrmM_t h]
end Cn
end
section
open Go.RowKit Go.Shelf
namespace Tw
open Mem Tp Tr Mo Fo Sn Og St Pl Iv Rf
theorem okD_of' {l:List Dd} {most:Nat} (h:short_anyD l most = true) (hm:most ≤ 45) (hr:∀ z ∈ l,z.rk < 2 * Fl.S):OkD l:=by
 have h:=of_decide_eq_true h;exact ⟨by omega,fun d hd => ⟨h.2 d hd,hr d hd⟩⟩
end Tw
end
section
open Go.RowKit Go.Shelf
attribute [local go_sem] Fl.run_store_float
namespace Tw
open Mem Tp Tr Mo Fo Sn Og St Pl Iv Rf Cn
theorem tm_zero {t:Tm} (h:t.c = 0) (k:t.r = 0):t = ⟨0,0⟩:=by
 obtain ⟨c,r⟩:=t;simp only at h k;rw [h,k]
structure WW (w W:World) (p b:Nat) (vp:Value) (xs:List X3) (pool:List Mv) (p' b':Nat) (vp':Value) (ys:List X3) (pool':List Mv) (B1 B2:Nat):Prop where
 a:PW W B1 p b vp xs pool
 b:PW W B2 p' b' vp' ys pool'
 bel:Below w.heap.size w W
theorem WW.below {w W W':World} {p b:Nat} {vp:Value} {xs:List X3} {pool:List Mv} {p' b':Nat} {vp':Value} {ys:List X3} {pool':List Mv} {B1 B2:Nat} (h:WW w W p b vp xs pool p' b' vp' ys pool' B1 B2) (k:Below W.heap.size W W'):WW w W' p b vp xs pool p' b' vp' ys pool' B1 B2:=⟨h.a.below k,h.b.below k,h.bel.trans (k.mono h.bel.size)⟩
theorem str_same (w:World) {r q:Rp} (hr:OkR r) (hq:OkR q):((fileS r).toList == (fileS q).toList) = sameP r q:=by
 rw [← file_same w hr hq,Bool.eq_iff_iff,nm_eq,decide_eq_true_eq]
theorem canon_main (n:Nat) (v1 v2:Value) (l1 l2:List Dd) (w:World) (hS1:Mem.Dds w v1 l1) (hS2:Mem.Dds w v2 l2) (h1:short_anyD l1 25 = true) (h2:short_anyD l2 25 = true) (hr1:∀ z ∈ l1,z.rk < 2 * Fl.S) (hr2:∀ z ∈ l2,z.rk < 2 * Fl.S) (hl1:l1.length ≤ maxLen) (hl2:l2.length ≤ maxLen) (hn:1 ≤ n) (h8:n ≤ 8) :
  Calls Tryz.prog 6 #[.int .i64 (n:Int),v1,v2] w fun e w' => e = .returned (.bool true) ∧ Below w.heap.size w w':=by
 have HSH1:=hid (short_any v1 l1 25 w hS1 (by omega) (by unfold maxLen at hl1;omega));have HSH2:=hid (fun W (h:Below w.heap.size w W) => short_any v2 l2 25 W (Sl.below hS2 h) (by omega) (by unfold maxLen at hl2;omega));rw [h1] at HSH1;rw [h2] at HSH2;have hO1:=okD_of' h1 (by omega) hr1;have hO2:=okD_of' h2 (by omega) hr2;have HW1:=hid (fun W (h:Below w.heap.size w W) => world_any n _ l1 W hn h8 (Sl.below hS1 h) hO1);have HW2:=hid (fun W (h:Below w.heap.size w W) => world_any n _ l2 W hn h8 (Sl.below hS2 h) hO2);obtain ⟨s1,s2,rfl⟩:=hS1.len
 obtain ⟨s3,s4,rfl⟩:=hS2.len
 have t1:¬ (n:Int) < 1:=by omega
 have t2:¬ (8:Int) < (n:Int):=by omega
 replace hO1:=hid hO1;replace hO2:=hid hO2;clear hS1 hS2 h1 h2 hr1 hr2 hl1 hl2;go_enter Tryz.func6,Tryz.ntmps6;go_wp2_with fail;refine HSH1.out.mono ?_
 rintro e w1 ⟨rfl,k1⟩;have HSH3:=hid (HSH2.out w1 k1);replace k1:=hid k1;go_wp2_with fail;refine HSH3.out.mono ?_
 rintro e w2 ⟨rfl,k2⟩;have K2:=k1.out.trans (k2.mono k1.out.size);have HW3:=hid (HW1.out w2 K2);replace K2:=hid K2;clear k1 k2;go_wp2_with fail;refine HW3.out.mono ?_
 rintro e w3 ⟨p,b,vp,xs,pool,cs,rfl,hR,hP,k3⟩;have K3:=K2.out.trans (k3.mono K2.out.size);have HW4:=hid (HW2.out w3 K3);have hxl:=hR.len.1;rw [List.length_map] at hxl;have hI1:=hR.inv (fun d hd => (hO1.out.2 d hd).2);replace K3:=hid K3;replace hI1:=hid hI1;replace hP:=hid hP;clear k3 hR;go_wp2_with fail;refine HW4.out.mono ?_
 rintro e w4 ⟨p',b',vp',ys,pool',cs',rfl,hR',hP',k4⟩;have hyl:=hR'.len.1;rw [List.length_map] at hyl;have hI2:=hR'.inv (fun d hd => (hO2.out.2 d hd).2);have T4:WW w w4 p b vp xs pool p' b' vp' ys pool' _ _:=⟨hP.out.below k4,hP',K3.out.trans (k4.mono K3.out.size)⟩;replace hI2:=hid hI2;replace T4:=hid T4;generalize w2.heap.size = B1 at *;generalize w3.heap.size = B2 at *;clear k4 hR' hP' hP K2 K3 HW1 HW2 HW3 HW4 HSH1 HSH2 HSH3;have HWK:=hid works_any;have hl1:=hO1.out.1;have hl2:=hO2.out.1;go_wp2_with fail
 go_loopw [9] (fun i wr => ∃ k:Nat,i = .int .i64 ((k:Int) + 1) ∧ k ≤ n ∧ Hid (WW w wr p b vp xs pool p' b' vp' ys pool' B1 B2)) (fun i _ => 20 - (intOf i).toNat)
 case atStart => exact ⟨0,rfl,by omega,T4⟩
 case round =>
  clear T4;obtain ⟨i,rfl,hi,hT⟩:=hrel
  by_cases hin:i < n
  ·have hle1:(i:Int) + 1 ≤ (n:Nat):=by omega
   obtain ⟨x,hx⟩:=some_at (l:=xs) (k:=i) (by omega);obtain ⟨wo,rfl⟩:∃ wo:World,wo = wr:=⟨_,rfl⟩;go_wp2_with fail
   go_loopw [10] (fun i wr => ∃ k:Nat,i = .int .i64 ((k:Int) + 1) ∧ k ≤ n ∧ Hid (WW w wr p b vp xs pool p' b' vp' ys pool' B1 B2)) (fun i _ => 20 - (intOf i).toNat)
   case atStart => exact ⟨0,rfl,by omega,hT⟩
   case round =>
    clear hT;obtain ⟨j,rfl,hj,hT⟩:=hrel
    by_cases hjn:j < n
    ·have hle2:(j:Int) + 1 ≤ (n:Nat):=by omega
     obtain ⟨y,hy⟩:=some_at (l:=ys) (k:=j) (by omega);obtain ⟨z,hz⟩:=some_at (l:=xs) (k:=j) (by omega);have hIx:=hI1.out.r x.2 (List.mem_map_of_mem (List.mem_of_getElem? hx));have hIy:=hI2.out.r y.2 (List.mem_map_of_mem (List.mem_of_getElem? hy));have hIz:=hI1.out.r z.2 (List.mem_map_of_mem (List.mem_of_getElem? hz));have hOx:=hIx.ok hl1;have hOy:=hIy.ok hl2;have hOz:=hIz.ok hl1;have HRx:=hid (fun W (h:Below wr.heap.size wr W) => replica_any W (hT.out.a.below h) i x hx)
     have HRy:=hid (fun W (h:Below wr.heap.size wr W) => replica_any W (hT.out.b.below h) j y hy);have HRz:=hid (fun W (h:Below wr.heap.size wr W) => replica_any W (hT.out.a.below h) j z hz);have HFx:=hid (fun W (h:Below wr.heap.size wr W) => file_any W (hT.out.a.below h) i x hx hOx);have HFy:=hid (fun W (h:Below wr.heap.size wr W) => file_any W (hT.out.b.below h) j y hy hOy);have HFz:=hid (fun W (h:Below wr.heap.size wr W) => file_any W (hT.out.a.below h) j z hz hOz);have hrx:=hT.out.a.rep x (List.mem_of_getElem? hx)
     have hry:=hT.out.b.rep y (List.mem_of_getElem? hy);have hrz:=hT.out.a.rep z (List.mem_of_getElem? hz);have HSy:=hid (fun W (h:Below wr.heap.size wr W) => sameP_any x y W (RepW.below hrx h) (RepW.below hry h) hOx.w hOy.w hOx.k hOy.k);have HSz:=hid (fun W (h:Below wr.heap.size wr W) => sameP_any x z W (RepW.below hrx h) (RepW.below hrz h) hOx.w hOz.w hOx.k hOz.k);have HM:=hid (fun W (h:Below wr.heap.size wr W) => sameM_any _ _ _ _ W (RepW.below hrx h).l (RepW.below hrz h).l hOx.k.2 hOz.k.2 (by have:=hOx.w.len;omega));have e1:=str_same w hOx hOy
     have e2:=str_same w hOx hOz
     have hzs:x.2.fl = ⟨0,0⟩ → z.2.fl = ⟨0,0⟩ → x.2.log.map nrmM = z.2.log.map nrmM → sameP x.2 z.2 = true:=fun q1 q2 q3 => zero_same hIx hIz q1 q2 q3
     obtain ⟨fx,hfx⟩:∃ f,fileS x.2 = f:=⟨_,rfl⟩;obtain ⟨fy,hfy⟩:∃ f,fileS y.2 = f:=⟨_,rfl⟩;obtain ⟨fz,hfz⟩:∃ f,fileS z.2 = f:=⟨_,rfl⟩;obtain ⟨q1,hq1⟩:∃ q,sameP x.2 y.2 = q:=⟨_,rfl⟩;obtain ⟨q2,hq2⟩:∃ q,sameP x.2 z.2 = q:=⟨_,rfl⟩;obtain ⟨q3,hq3⟩:∃ q,decide (x.2.log.map nrmM = z.2.log.map nrmM) = q:=⟨_,rfl⟩;rw [hfx] at e1 e2 HFx;rw [hfy] at e1 HFy;rw [hfz] at e2 HFz;rw [hq1] at e1 HSy;rw [hq2] at e2 HSz hzs;rw [hq3] at HM
     have hzs:x.2.fl = ⟨0,0⟩ → z.2.fl = ⟨0,0⟩ → q3 = true → q2 = true:=fun a b c => hzs a b (of_decide_eq_true (hq3.trans c))
     obtain ⟨sax,kx,eax⟩:=hrx.b.len;obtain ⟨sbx,lx,ebx⟩:=hrx.l.len;obtain ⟨scx,mx,ecx⟩:=hrx.m.len;obtain ⟨⟨va,vb,vc⟩,rx⟩:=x;simp only at eax ebx ecx;subst eax ebx ecx;obtain ⟨say,ky,eay⟩:=hry.b.len;obtain ⟨sby,ly,eby⟩:=hry.l.len;obtain ⟨scy,my,ecy⟩:=hry.m.len;obtain ⟨⟨va,vb,vc⟩,ry⟩:=y;simp only at eay eby ecy;subst eay eby ecy;obtain ⟨saz,kz,eaz⟩:=hrz.b.len;obtain ⟨sbz,lz,ebz⟩:=hrz.l.len;obtain ⟨scz,mz,ecz⟩:=hrz.m.len;obtain ⟨⟨va,vb,vc⟩,rz⟩:=z;simp only at eaz ebz ecz;subst eaz ebz ecz;simp only at hzs HM
     unfold rpV repV at HRx HRy HRz HSy HSz;simp only at HRx HRy HRz HSy HSz;replace hzs:=hid hzs;replace hx:=hid hx;clear hIx hIy hIz hOx hOy hOz hrx hry hrz hy hz hfx hfy hfz hq1 hq2 hq3;have HRx0:=hid (HRx.out wr (Below.refl _ _));go_wp2_with fail;refine HRx0.out.mono ?_
     rintro e w5 ⟨rfl,k5⟩;have g6:=alloc_new w5 (.cells #[.slice sax rx.base.length kx,.int .i64 rx.fl.c,.int .i64 rx.fl.r,.slice sbx rx.log.length lx,.slice scx rx.mks.length mx] 34);have K6:=k5.alloc k5.size (.cells #[.slice sax rx.base.length kx,.int .i64 rx.fl.c,.int .i64 rx.fl.r,.slice sbx rx.log.length lx,.slice scx rx.mks.length mx] 34);obtain ⟨W6,hW6⟩:∃ W,w5.alloc (.cells #[.slice sax rx.base.length kx,.int .i64 rx.fl.c,.int .i64 rx.fl.r,.slice sbx rx.log.length lx,.slice scx rx.mks.length mx] 34) = W:=⟨_,rfl⟩;rw [hW6] at g6 K6
     have HRy0:=hid (HRy.out W6 K6);replace g6:=hid g6;replace K6:=hid K6;replace hW6:=hid hW6;clear k5 HRx0 HRx HRy;go_wp2_with fail;rw [hW6.out];refine HRy0.out.mono ?_
     rintro e w7 ⟨rfl,k7⟩;have K7:=K6.out.trans (k7.mono K6.out.size);have g7:=below_at k7 g6.out (lt_of_block g6.out);have hne:w5.heap.size ≠ w7.heap.size:=Nat.ne_of_lt (lt_of_block g7);have hB7:wr.heap.size ≤ w7.heap.size:=K7.size;have g8:=alloc_new w7 (.cells #[.slice say ry.base.length ky,.int .i64 ry.fl.c,.int .i64 ry.fl.r,.slice sby ry.log.length ly,.slice scy ry.mks.length my] 34);have K8:=K7.alloc K7.size (.cells #[.slice say ry.base.length ky,.int .i64 ry.fl.c,.int .i64 ry.fl.r,.slice sby ry.log.length ly,.slice scy ry.mks.length my] 34)
     have j8:=alloc_at (.cells #[.slice say ry.base.length ky,.int .i64 ry.fl.c,.int .i64 ry.fl.r,.slice sby ry.log.length ly,.slice scy ry.mks.length my] 34) g7;obtain ⟨W8,hW8⟩:∃ W,w7.alloc (.cells #[.slice say ry.base.length ky,.int .i64 ry.fl.c,.int .i64 ry.fl.r,.slice sby ry.log.length ly,.slice scy ry.mks.length my] 34) = W:=⟨_,rfl⟩;rw [hW8] at g8 K8 j8;generalize w5.heap.size = B5 at *;have HFx0:=hid (HFx.out W8 K8);replace g8:=hid g8;replace K8:=hid K8;replace j8:=hid j8;replace hW8:=hid hW8;clear k7 K7 g7 g6 K6 hW6 HRy0 HFx;go_wp2_with fail
     rw [hW8.out];generalize w7.heap.size = B7 at *;refine HFx0.out.mono ?_
     rintro e w9 ⟨rfl,k9⟩;have K9:=K8.out.trans (k9.mono K8.out.size);have g9:=below_at k9 g8.out (lt_of_block g8.out);have j9:=below_at k9 j8.out (lt_of_block j8.out);have HFy0:=hid (HFy.out w9 K9);replace g9:=hid g9;replace j9:=hid j9;replace K9:=hid K9;clear k9 K8 g8 j8 hW8 HFx0 HFy;go_wp2_with fail;refine HFy0.out.mono ?_
     rintro e w10 ⟨rfl,k10⟩;have K10:=K9.out.trans (k10.mono K9.out.size);have g10:=below_at k10 g9.out (lt_of_block g9.out);have j10:=below_at k10 j9.out (lt_of_block j9.out);have HSy0:=hid (HSy.out w10 K10);have c0:w10.cell? ⟨B5,0,none⟩ = some (.slice sax rx.base.length kx):=cell_at j10 0;have c1:w10.cell? ⟨B5,1,none⟩ = some (.int .i64 rx.fl.c):=cell_at j10 1;have c2:w10.cell? ⟨B5,2,none⟩ = some (.int .i64 rx.fl.r):=cell_at j10 2;have c3:w10.cell? ⟨B5,3,none⟩ = some (.slice sbx rx.log.length lx):=cell_at j10 3
     have c4:w10.cell? ⟨B5,4,none⟩ = some (.slice scx rx.mks.length mx):=cell_at j10 4;have d0:w10.cell? ⟨B7,0,none⟩ = some (.slice say ry.base.length ky):=cell_at g10 0;have d1:w10.cell? ⟨B7,1,none⟩ = some (.int .i64 ry.fl.c):=cell_at g10 1;have d2:w10.cell? ⟨B7,2,none⟩ = some (.int .i64 ry.fl.r):=cell_at g10 2;have d3:w10.cell? ⟨B7,3,none⟩ = some (.slice sby ry.log.length ly):=cell_at g10 3;have d4:w10.cell? ⟨B7,4,none⟩ = some (.slice scy ry.mks.length my):=cell_at g10 4;replace g10:=hid g10;replace j10:=hid j10;replace K10:=hid K10
     clear k10 K9 g9 j9 HFy0 HSy;go_wp2_with fail;refine HSy0.out.mono ?_
     rintro e w11 ⟨rfl,k11⟩;have K11:=K10.out.trans (k11.mono K10.out.size);have g11:=below_at k11 g10.out (lt_of_block g10.out);have j11:=below_at k11 j10.out (lt_of_block j10.out);have HRz0:=hid (HRz.out w11 K11);replace g11:=hid g11;replace j11:=hid j11;replace K11:=hid K11;clear k11 K10 g10 j10 HSy0 HRz c0 c1 c2 c3 c4 d0 d1 d2 d3 d4;go_wp2_with fail;refine HRz0.out.mono ?_
     rintro e w12 ⟨rfl,k12⟩;have K12:=K11.out.trans (k12.mono K11.out.size);have g12:=below_at k12 g11.out (lt_of_block g11.out);have j12:=below_at k12 j11.out (lt_of_block j11.out);have hwB:wr.heap.size ≤ B7:=hB7
     have ones:Hid (∀ v ∈ [Value.slice saz rz.base.length kz,.int .i64 rz.fl.c,.int .i64 rz.fl.r,.slice sbz rz.log.length lz,.slice scz rz.mks.length mz],v.oneCell' = true):=hid (by
      intro v hv;simp only [List.mem_cons,List.not_mem_nil,or_false] at hv
      rcases hv with rfl | rfl | rfl | rfl | rfl <;> rfl)
     replace K12:=hid K12;replace j12:=hid j12;clear k12 K11 g11 j11 HRz0
     go_wp2_with (refine wpList_store_splice (by rfl) 34 _ _ (by rfl) B7 0 [.slice saz rz.base.length kz,.int .i64 rz.fl.c,.int .i64 rz.fl.r,.slice sbz rz.log.length lz,.slice scz rz.mks.length mz] (by rfl) (by rfl) 34 [.slice say ry.base.length ky,.int .i64 ry.fl.c,.int .i64 ry.fl.r,.slice sby ry.log.length ly,.slice scy ry.mks.length my] g12 (info_rep.trans rfl) (by simp) ones.out ?_;intro w13 hg13 hB13 hO13)
     have K13:=hB13.out _ _ K12.out hwB;have j13:=(hO13.out B5 hne).trans j12.out;have HFz0:=hid (HFz.out w13 K13);have g13:w13.heap[B7]? = some (.cells #[.slice saz rz.base.length kz,.int .i64 rz.fl.c,.int .i64 rz.fl.r,.slice sbz rz.log.length lz,.slice scz rz.mks.length mz] 34 (0,0)):=hg13.out;replace g13:=hid g13;replace j13:=hid j13;replace K13:=hid K13;clear g12 hg13 hB13 hO13 K12 j12 ones HFz;go_wp2_with fail;refine HFz0.out.mono ?_
     rintro e w14 ⟨rfl,k14⟩;have K14:=K13.out.trans (k14.mono K13.out.size);have g14:=below_at k14 g13.out (lt_of_block g13.out);have j14:=below_at k14 j13.out (lt_of_block j13.out);have HSz0:=hid (HSz.out w14 K14);have c0:w14.cell? ⟨B5,0,none⟩ = some (.slice sax rx.base.length kx):=cell_at j14 0;have c1:w14.cell? ⟨B5,1,none⟩ = some (.int .i64 rx.fl.c):=cell_at j14 1;have c2:w14.cell? ⟨B5,2,none⟩ = some (.int .i64 rx.fl.r):=cell_at j14 2;have c3:w14.cell? ⟨B5,3,none⟩ = some (.slice sbx rx.log.length lx):=cell_at j14 3
     have c4:w14.cell? ⟨B5,4,none⟩ = some (.slice scx rx.mks.length mx):=cell_at j14 4;have d0:w14.cell? ⟨B7,0,none⟩ = some (.slice saz rz.base.length kz):=cell_at g14 0;have d1:w14.cell? ⟨B7,1,none⟩ = some (.int .i64 rz.fl.c):=cell_at g14 1;have d2:w14.cell? ⟨B7,2,none⟩ = some (.int .i64 rz.fl.r):=cell_at g14 2;have d3:w14.cell? ⟨B7,3,none⟩ = some (.slice sbz rz.log.length lz):=cell_at g14 3;have d4:w14.cell? ⟨B7,4,none⟩ = some (.slice scz rz.mks.length mz):=cell_at g14 4;replace g14:=hid g14;replace j14:=hid j14;replace K14:=hid K14
     clear k14 K13 g13 j13 HFz0 HSz;go_wp2_with fail;refine HSz0.out.mono ?_
     rintro e w15 ⟨rfl,k15⟩;have K15:=K14.out.trans (k15.mono K14.out.size);have g15:=below_at k15 g14.out (lt_of_block g14.out);have j15:=below_at k15 j14.out (lt_of_block j14.out);have HM0:=hid (HM.out w15 K15);have hT15:=hid (hT.out.below K15);clear c0 c1 c2 c3 c4 d0 d1 d2 d3 d4;have c0:w15.cell? ⟨B5,0,none⟩ = some (.slice sax rx.base.length kx):=cell_at j15 0;have c1:w15.cell? ⟨B5,1,none⟩ = some (.int .i64 rx.fl.c):=cell_at j15 1;have c2:w15.cell? ⟨B5,2,none⟩ = some (.int .i64 rx.fl.r):=cell_at j15 2
     have c3:w15.cell? ⟨B5,3,none⟩ = some (.slice sbx rx.log.length lx):=cell_at j15 3;have c4:w15.cell? ⟨B5,4,none⟩ = some (.slice scx rx.mks.length mx):=cell_at j15 4;have d0:w15.cell? ⟨B7,0,none⟩ = some (.slice saz rz.base.length kz):=cell_at g15 0;have d1:w15.cell? ⟨B7,1,none⟩ = some (.int .i64 rz.fl.c):=cell_at g15 1;have d2:w15.cell? ⟨B7,2,none⟩ = some (.int .i64 rz.fl.r):=cell_at g15 2;have d3:w15.cell? ⟨B7,3,none⟩ = some (.slice sbz rz.log.length lz):=cell_at g15 3
     have d4:w15.cell? ⟨B7,4,none⟩ = some (.slice scz rz.mks.length mz):=cell_at g15 4;clear k15 K14 g14 j14 HSz0 HM g15 j15 K15;go_wp2_with fail
     ·have hz1:rx.fl = ⟨0,0⟩:=tm_zero (by assumption) (by assumption)
      have hz2:rz.fl = ⟨0,0⟩:=tm_zero (by assumption) (by assumption);have hq:=hzs.out hz1 hz2;replace hz1:=hid hz1;replace hz2:=hid hz2;refine HM0.out.mono ?_
      rintro e w16 ⟨rfl,k16⟩;have hT16:=hid (hT15.out.below k16);clear k16 HM0
      cases q3 with
      | false =>
       clear hq;go_wp2_with fail;exact ⟨⟨j + 1,by go_num,by omega,hT16⟩,by simp [intOf];omega⟩
      | true =>
       have hq:=hq rfl;subst hq;go_wp2_with fail;exact ⟨⟨j + 1,by go_num,by omega,hT16⟩,by simp [intOf];omega⟩
     all_goals exact ⟨⟨j + 1,by go_num,by omega,hT15⟩,by simp [intOf];omega⟩
    ·obtain rfl:j = n:=by omega
     have hge:¬ ((j:Int) + 1 ≤ (j:Nat)):=by omega
     go_wp2_with fail
     go_roundw
     case rel => exact ⟨i + 1,by go_num,by omega,hT⟩
     case measure => simp [intOf];omega
  ·obtain rfl:i = n:=by omega
   have hge:¬ ((i:Int) + 1 ≤ (i:Nat)):=by omega
   have hb:=hid hT.out.bel;go_wp2_with fail;refine (HWK.out _).mono ?_
   rintro e w6 ⟨rfl,k6⟩;have hf:=hid (hb.out.trans (k6.mono hb.out.size));clear k6;go_wp2_with fail;go_ret;exact ⟨rfl,hf.out⟩
theorem canon_walk (n:Int) (v1 v2:Value) (l1 l2:List Dd) (w:World) (hS1:Mem.Dds w v1 l1) (hS2:Mem.Dds w v2 l2) (hr1:∀ z ∈ l1,z.rk < 2 * Fl.S) (hr2:∀ z ∈ l2,z.rk < 2 * Fl.S) (hl1:l1.length ≤ maxLen) (hl2:l2.length ≤ maxLen) :
  Calls Tryz.prog 6 #[.int .i64 n,v1,v2] w fun e w' => e = .returned (.bool true) ∧ Below w.heap.size w w':=by
 by_cases hm:(short_anyD l1 25 = true ∧ short_anyD l2 25 = true) ∧ (1 ≤ n ∧ n ≤ 8)
 ·obtain ⟨m,rfl⟩:∃ m:Nat,n = (m:Int):=⟨n.toNat,by omega⟩
  exact canon_main m v1 v2 l1 l2 w hS1 hS2 hm.1.1 hm.1.2 hr1 hr2 hl1 hl2 (by omega) (by omega)
 ·have HSH1:=hid (short_any v1 l1 25 w hS1 (by omega) (by unfold maxLen at hl1;omega))
  have HSH2:=hid (fun W (h:Below w.heap.size w W) => short_any v2 l2 25 W (Sl.below hS2 h) (by omega) (by unfold maxLen at hl2;omega));have HWK:=hid works_any;obtain ⟨s1,s2,rfl⟩:=hS1.len;obtain ⟨s3,s4,rfl⟩:=hS2.len;obtain ⟨c1,hc1⟩:∃ c,short_anyD l1 25 = c:=⟨_,rfl⟩;obtain ⟨c2,hc2⟩:∃ c,short_anyD l2 25 = c:=⟨_,rfl⟩;rw [hc1,hc2] at hm;rw [hc1] at HSH1;rw [hc2] at HSH2;clear hS1 hS2 hr1 hr2 hl1 hl2 hc1 hc2
  cases c1 with
  | false =>
   clear hm;go_enter Tryz.func6,Tryz.ntmps6;go_wp2_with fail;refine HSH1.out.mono ?_
   rintro e w1 ⟨rfl,k1⟩;replace k1:=hid k1;go_wp2_with fail;refine (HWK.out _).mono ?_
   rintro e w6 ⟨rfl,k6⟩;have hf:=hid (k1.out.trans (k6.mono k1.out.size));clear k6;go_wp2_with fail;go_ret;exact ⟨rfl,hf.out⟩
  | true =>
   cases c2 with
   | false =>
    clear hm;go_enter Tryz.func6,Tryz.ntmps6;go_wp2_with fail;refine HSH1.out.mono ?_
    rintro e w1 ⟨rfl,k1⟩;have HSH3:=hid (HSH2.out w1 k1);replace k1:=hid k1;go_wp2_with fail;refine HSH3.out.mono ?_
    rintro e w2 ⟨rfl,k2⟩;have K2:=hid (k1.out.trans (k2.mono k1.out.size));clear k2;go_wp2_with fail;refine (HWK.out _).mono ?_
    rintro e w6 ⟨rfl,k6⟩;have hf:=hid (K2.out.trans (k6.mono K2.out.size));clear k6;go_wp2_with fail;go_ret;exact ⟨rfl,hf.out⟩
   | true =>
    have hm:n < 1 ∨ (¬ n < 1 ∧ 8 < n):=by
     simp only [true_and,not_and] at hm;omega
    rcases hm with h1 | ⟨h0,h1⟩
    all_goals
     go_enter Tryz.func6,Tryz.ntmps6;go_wp2_with fail;refine HSH1.out.mono ?_
     rintro e w1 ⟨rfl,k1⟩;have HSH3:=hid (HSH2.out w1 k1);replace k1:=hid k1;go_wp2_with fail;refine HSH3.out.mono ?_
     rintro e w2 ⟨rfl,k2⟩;have K2:=hid (k1.out.trans (k2.mono k1.out.size));clear k2;go_wp2_with fail;refine (HWK.out _).mono ?_
     rintro e w6 ⟨rfl,k6⟩;have hf:=hid (K2.out.trans (k6.mono K2.out.size));clear k6;go_wp2_with fail;go_ret;exact ⟨rfl,hf.out⟩
open Go.ChangeShapes Go.WideShapes Go.ChangeAt in
theorem canon_ok {H:Type} {enc:TypeId × Value → H} {d1 d2:DataW H} {p1 p2:List MemPlace} (W:World) (b:Nat) (v0 v1 v2:Value) (o0:Value.okWide Tryz.prog W .any b 3 v0) (o1:Value.okWide Tryz.prog W .any b 22 v1) (h1:DataW.Trod enc Tryz.prog W 0 (fun _ => true) true 22 v1 d1 p1) (o2:Value.okWide Tryz.prog W .any b 22 v2) (h2:DataW.Trod enc Tryz.prog W 0 (fun _ => true) true 22 v2 d2 p2) :
  Calls Tryz.prog 6 #[v0,v1,v2] W fun e w' => e = .returned (.bool true) ∧ Below W.heap.size W w':=by
 obtain ⟨n,rfl,-,-⟩:=Opened.ok_int Tryz.underlying3 o0;obtain ⟨l1,hS1,hr1,hl1⟩:=dds_of o1 h1;obtain ⟨l2,hS2,hr2,hl2⟩:=dds_of o2 h2;exact canon_walk n v1 v2 l1 l2 W hS1 hS2 hr1 hr2 hl1 hl2
end Tw
end
end Go.Proofs.YtnlijlknjhkoaaaGreat
