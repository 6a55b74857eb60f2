/-
  PART 1 of what law TopSettles leans on: plain lemmas and walks, of which each says its own condition.
-/
import Derived.Test.YtnlijlknjhkoaaaGreatP5
import Derived.Test.YtnlijlknjhkoaaaGreatRows
import Derived.WalkKit
import Derived.WalkSpells
import Derived.WalkLawsBesides
import Derived.Lib.Hide
import Derived.KernelRfl
import Derived.OneCell
import Derived.Laws.BytesArg
import Derived.Laws.IdiomStrings
import Derived.RangeFuncBox
import Derived.RangeFuncLeaves
import Derived.Laws.AppendOwnNone
import Derived.RegionTactic
import Derived.Laws.OwnMore
import Derived.Laws.CopyOwn
import Derived.ProofKit
import Derived.OpenShut
import Derived.Below
import Derived.Shelf.Small.Wraps
import Derived.Shelf.Strings.BuilderK
import Derived.Shelf.Slices.Turned
import Derived.Shelf.Bits.Mul64
import Derived.Test.YtnlijlknjhkoaaaGreatChecked
import Derived.OwnWalk
import Derived.Deep.RegionHeld3
import Derived.Outline
import Derived.Lib.Overlaps
import Derived.Lib.AppendZerosOnto
import Derived.Laws.Externs
import Derived.Laws.NewBlocks
import Derived.Deep.MidRow
import Derived.Laws.EntriesVeiled
import Derived.WalkMore
import Ieee.Arith
import GoSem.Core.Float
import Derived.Deep.WholeRow
import Derived.Deep.Cut
import Derived.Maps.OwnSet
import Derived.Maps.OwnOps
import Derived.Maps.OwnIn
import Derived.Shelf.Abstract
import Derived.OwnWalkIn
import Derived.TacticsInMore
import Derived.LoopNIn
import Derived.LoopIn
import Derived.RangeFuncCalls
import Derived.RangeFuncRecord
import Derived.Deep.QuietTactic
import Derived.BigQuiet
import Derived.Maps.RangeWalk
import Derived.Laws.ResultCell
import Derived.Deep.DeepCutAuto
import Derived.Defers
import Derived.Recover
import Derived.Lib.Strings
import Derived.Lib.Builder
import Derived.RangeFuncOwn
import Derived.Lib.AppendStr
import Derived.Deep.SlicePairs
import Derived.Laws.BitsAllLaws
import Derived.IntWalk
import Derived.Deep.Slices
import Derived.Deep.AppendLies
import Derived.Deep.RegionLaw
import Derived.Lib.AppendZeros
import Derived.ShutString
import Derived.ChangeOld
open Go.Lib (hid)
set_option maxRecDepth 100000
set_option maxHeartbeats 16000000
namespace Go.Proofs.YtnlijlknjhkoaaaGreat
section
open Go.RowKit Go.Shelf
attribute [local go_sem] Fl.run_store_float
namespace Tw
open Mem Tp Tr Mo Fo Sn Og St Pl Iv Rf
theorem settles_walk (v mv:Value) (l:List Dd) (t:Tm) (ms:List Mv) (w:World) (hS:Mem.Dds w v l) (hr:∀ z ∈ l,z.rk < 2 * Fl.S) (hl:l.length ≤ maxLen) (hM:Mem.Mvs w mv ms) (hmr:∀ z ∈ ms,z.rk < 2 * Fl.S) (hml:ms.length ≤ maxLen) :
  Calls Tryz.prog 3 #[v,tmV t,mv] w fun e w' => e = .returned (.bool true) ∧ Below w.heap.size w w':=by
 have g0:=alloc_new w (.cells #[.int .i64 t.c,.int .i64 t.r] 24);have b0:=(Below.refl w.heap.size w).alloc (Nat.le_refl _) (.cells #[.int .i64 t.c,.int .i64 t.r] 24);have HSH:=hid (short_any v l 30 _ (Sl.below hS b0) (by omega) (by unfold maxLen at hl;omega));have HFW:=hid (fun W (h:Below w.heap.size w W) => few_any mv ms 10 W (Sl.below hM h) (by omega) (by unfold maxLen at hml;omega));have HM:=hid (fun W (h:Below w.heap.size w W) => Sl.below hM h);have HWK:=hid works_any;obtain ⟨a,cap,rfl⟩:=hS.len;obtain ⟨a2,cap2,rfl⟩:=hM.len;unfold tmV
 obtain ⟨W0,hW0⟩:∃ W0,w.alloc (.cells #[.int .i64 t.c,.int .i64 t.r] 24) = W0:=⟨_,rfl⟩;rw [hW0] at g0 b0 HSH;have hs0:w.heap.size < W0.heap.size:=lt_of_block g0;replace hW0:=hid hW0;replace g0:=hid g0
 by_cases hsh:short_anyD l 30 = true
 ·rw [hsh] at HSH
  by_cases hfw:few_anyD ms 10 = true
  ·rw [hfw] at HFW
   have hOk:=okD_of hsh (by omega) hr;have hl30:Hid (l.length ≤ 30):=hid (of_decide_eq_true hsh).1;have hm10:Hid (ms.length ≤ 10):=hid (of_decide_eq_true hfw).1;have hnm:=(of_decide_eq_true hfw).2;have HW:=hid (fun W (h:Below w.heap.size w W) => world_any 3 _ l W (by omega) (by omega) (Sl.below hS h) hOk);replace hOk:=hid hOk;replace b0:=hid b0;replace hmr:=hid hmr;replace hnm:=hid hnm;clear hS hsh hfw hr hl hM hml;go_enter Tryz.func3,Tryz.ntmps3;go_wp2_with fail;rw [hW0.out];refine HSH.out.mono ?_
   rintro e w1 ⟨rfl,b1⟩;have hb1:=b0.out.trans (b1.mono b0.out.size);have HF1:=hid (HFW.out w1 hb1);replace hb1:=hid hb1;replace b1:=hid b1;go_wp2_with fail;refine HF1.out.mono ?_
   rintro e w2 ⟨rfl,b2⟩;have hb2:=hb1.out.trans (b2.mono hb1.out.size);have HW2:=hid (HW.out w2 hb2);have b02:=hid (b1.out.trans (b2.mono b1.out.size));replace hb2:=hid hb2;clear HF1 HFW HW b2;go_wp2_with fail;refine HW2.out.mono ?_
   rintro e w3 ⟨p,b,vp,xs,pool,cs,rfl,hR,hP,b3⟩;have hb3:=hid (hb2.out.trans (b3.mono hb2.out.size));have b03:=hid (b02.out.trans (b3.mono b02.out.size));have hinv:=hR.inv (fun d hd => (hOk.out.2 d hd).2);have hxl:=hR.len.1;rw [List.length_map] at hxl;obtain ⟨x,hx⟩:=some_at (l:=xs) (k:=0) (by omega);have hI:=hid ((hinv.r x.2 (List.mem_map_of_mem (List.mem_of_getElem? hx))).mono hl30.out);have HRp:=hid (replica_any w3 hP 0 x hx);rw [show ((0:Nat):Int) + 1 = 1 from rfl] at HRp;have hX3:=hid (hP.rep x (List.mem_of_getElem? hx));clear hinv hR hP hx hxl b3
   go_wp2_with fail;refine HRp.out.mono ?_
   rintro e w4 ⟨rfl,b4⟩;have hb4:=hb3.out.trans (b4.mono hb3.out.size);have b04:=b03.out.trans (b4.mono b03.out.size);have hX4:=RepW.below hX3.out b4
   have hlt4:=fun k hk => Nat.lt_of_lt_of_le (hX3.out.lt (k:=k) hk) b4.size
   obtain ⟨ab,kb,eb⟩:=hX4.b.len;obtain ⟨al,kl,el⟩:=hX4.l.len;obtain ⟨am,km,em⟩:=hX4.m.len;obtain ⟨⟨vb,vl,vm⟩,r⟩:=x;simp only at eb el em;subst eb el em;rw [show rpV (⟨.slice ab r.base.length kb,.slice al r.log.length kl,.slice am r.mks.length km⟩,r) = .agg #[.slice ab r.base.length kb,.int .i64 r.fl.c,.int .i64 r.fl.r,.slice al r.log.length kl,.slice am r.mks.length km] from rfl];have g5:=alloc_new w4 (.cells #[.slice ab r.base.length kb,.int .i64 r.fl.c,.int .i64 r.fl.r,.slice al r.log.length kl,.slice am r.mks.length km] 34)
   have b5:=(Below.refl w4.heap.size w4).alloc (Nat.le_refl _) (.cells #[.slice ab r.base.length kb,.int .i64 r.fl.c,.int .i64 r.fl.r,.slice al r.log.length kl,.slice am r.mks.length km] 34);have hX5:RepX _ (⟨.slice ab r.base.length kb,.slice al r.log.length kl,.slice am r.mks.length km⟩,r):=RepW.below hX4 b5;have hb5:=hb4.trans (b5.mono hb4.size);have b05:=b04.trans (b5.mono b04.size);obtain ⟨W5,hW5⟩:∃ W5,w4.alloc (.cells #[.slice ab r.base.length kb,.int .i64 r.fl.c,.int .i64 r.fl.r,.slice al r.log.length kl,.slice am r.mks.length km] 34) = W5:=⟨_,rfl⟩
   rw [hW5] at g5 b5 hX5 hb5 b05;have hs5:w4.heap.size < W5.heap.size:=lt_of_block g5;have gt5:=below_at b05 g0.out hs0;have HPR:=hid (Fo.prune_any _ _ _ r t W5 hX5 (hI.out.wf (by omega)));have c0:W5.cell? ⟨w4.heap.size,0,none⟩ = some (.slice ab r.base.length kb):=cell_at g5 0;have c1:W5.cell? ⟨w4.heap.size,1,none⟩ = some (.int .i64 r.fl.c):=cell_at g5 1;have c2:W5.cell? ⟨w4.heap.size,2,none⟩ = some (.int .i64 r.fl.r):=cell_at g5 2;have c3:W5.cell? ⟨w4.heap.size,3,none⟩ = some (.slice al r.log.length kl):=cell_at g5 3
   have c4:W5.cell? ⟨w4.heap.size,4,none⟩ = some (.slice am r.mks.length km):=cell_at g5 4;have d0:W5.cell? ⟨w.heap.size,0,none⟩ = some (.int .i64 t.c):=cell_at gt5 0;have d1:W5.cell? ⟨w.heap.size,1,none⟩ = some (.int .i64 t.r):=cell_at gt5 1;rw [← hW5] at c0 c1 c2 c3 c4 d0 d1;obtain ⟨qq,hqq⟩:∃ qq,pruneR r t = qq:=⟨_,rfl⟩;rw [hqq] at HPR;unfold repV tmV at HPR;have hIq:=inv_prune hI.out t
   have hrel:qq.2 = 0 → Rel r qq.1:=fun e => by rw [← hqq];rw [← hqq] at e;exact rel_prune hI.out e
   have herr:qq.2 ≠ 0 → qq.1 = r:=fun e => by rw [← hqq];rw [← hqq] at e;exact prune_err e
   rw [hqq] at hIq;obtain ⟨q,c⟩:=qq;simp only at hIq HPR hrel herr;simp only at hI hlt4;replace hIq:=hid hIq;replace hrel:=hid hrel;replace herr:=hid herr;replace hqq:=hid hqq;replace hW5:=hid hW5;replace g5:=hid g5;replace hX5:=hid hX5;replace hb5:=hid hb5;replace hlt4:=hid hlt4;have hb4s:Hid (w.heap.size ≤ w4.heap.size):=hid hb4.size;clear hX4 hX3 HRp HW2 HSH b02 b03 b04 b05 b4 b5 gt5 hb4;go_wp2_with fail;rw [hW5.out];refine HPR.out.mono ?_
   rintro e w6 ⟨⟨vb',vl',vm',rfl,hB⟩,b6⟩;have hnb:=back_nb (x:=(⟨.slice ab r.base.length kb,.slice al r.log.length kl,.slice am r.mks.length km⟩,r)) (q':=q) hB;have hY6:RepX w6 (⟨vb',vl',vm'⟩,q):=hB.r;obtain ⟨ab',kb',eb⟩:=hB.r.b.len;subst eb;obtain ⟨al',kl',el⟩:=hB.r.l.len;subst el;obtain ⟨am',km',em⟩:=hB.r.m.len;subst em;have hb6:=hb5.out.trans (b6.mono hb5.out.size);have g7:=alloc_new w6 (.cells #[.slice ab' q.base.length kb',.int .i64 q.fl.c,.int .i64 q.fl.r,.slice al' q.log.length kl',.slice am' q.mks.length km'] 34)
   have b7:=(Below.refl w6.heap.size w6).alloc (Nat.le_refl _) (.cells #[.slice ab' q.base.length kb',.int .i64 q.fl.c,.int .i64 q.fl.r,.slice al' q.log.length kl',.slice am' q.mks.length km'] 34);have hb7:=hb6.trans (b7.mono hb6.size);have g87:=below_at b7 (below_at b6 g5.out hs5) (Nat.lt_of_lt_of_le hs5 b6.size);have hX7:RepX _ (⟨.slice ab r.base.length kb,.slice al r.log.length kl,.slice am r.mks.length km⟩,r):=RepW.below (RepW.below hX5.out b6) b7
   have hY7:RepX _ (⟨.slice ab' q.base.length kb',.slice al' q.log.length kl',.slice am' q.mks.length km'⟩,q):=RepW.below hY6 b7;obtain ⟨W7,hW7⟩:∃ W7,w6.alloc (.cells #[.slice ab' q.base.length kb',.int .i64 q.fl.c,.int .i64 q.fl.r,.slice al' q.log.length kl',.slice am' q.mks.length km'] 34) = W7:=⟨_,rfl⟩;rw [hW7] at g7 b7 hb7 g87 hX7 hY7;have hs56:=b6.size
   have hnY:∀ k,blocks (⟨.slice ab' q.base.length kb',.slice al' q.log.length kl',.slice am' q.mks.length km'⟩,q) k → k ≠ w4.heap.size ∧ k ≠ w6.heap.size:=fun k hk => by
    have h2:=hY6.lt hk
    rcases hnb k hk with h | h
    ·have:=hlt4.out k h;omega
    ·omega
   have hnX:∀ k,blocks (⟨.slice ab r.base.length kb,.slice al r.log.length kl,.slice am r.mks.length km⟩,r) k → k ≠ w4.heap.size ∧ k ≠ w6.heap.size:=fun k hk => by
    have:=hlt4.out k hk;omega
   replace hX7:=hid hX7;replace hY7:=hid hY7;replace g7:=hid g7;replace g87:=hid g87;replace hb7:=hid hb7;replace hnX:=hid hnX;replace hnY:=hid hnY;have hne:Hid (w4.heap.size ≠ w6.heap.size):=hid (by omega);have hb6s:Hid (w.heap.size ≤ w6.heap.size):=hid hb6.size;clear hB hnb hY6 hb6 b6 b7 c0 c1 c2 c3 c4 d0 d1 hlt4 HPR
   by_cases hc:c = 0
   ·have T0:Hid (Two w w4.heap.size w6.heap.size W7 (⟨.slice ab r.base.length kb,.slice al r.log.length kl,.slice am r.mks.length km⟩,r) (⟨.slice ab' q.base.length kb',.slice al' q.log.length kl',.slice am' q.mks.length km'⟩,q) 30):=hid ⟨g87.out,g7.out,hX7.out,hY7.out,hnX.out,hnY.out,hb7.out,hrel.out hc,hI.out,hIq.out⟩
    clear hqq;subst hc;replace hW7:=hid hW7;clear g7 g87 hX7 hY7 hnX hnY hb7 hX5 hb5 hI hIq hrel herr g5;go_wp2_with fail;rw [hW7.out];obtain ⟨B8,hB8⟩:∃ B,w4.heap.size = B:=⟨_,rfl⟩;obtain ⟨B10,hB10⟩:∃ B,w6.heap.size = B:=⟨_,rfl⟩;rw [hB8] at hne hb4s T0 ⊢;rw [hB10] at hne hb6s T0 ⊢;clear hW7 hW5 hB8 hB10;have hm10':=hm10.out
    go_loopw [12] (fun i wr => ∃ (z:Int) (x y:X3),i = .int .i64 z ∧ -1 ≤ z ∧ z ≤ (ms.length:Nat) ∧ Hid (Two w B8 B10 wr x y (30 + (z + 1).toNat))) (fun i _ => (ms.length + 1 - ((intOf i) + 1)).toNat)
    case atStart => exact ⟨-1,_,_,rfl,by omega,by omega,T0⟩
    case round =>
     clear T0;obtain ⟨z,x,y,rfl,hz1,hz2,T⟩:=hrel;obtain ⟨ab,kb,eb⟩:=T.out.rx.b.len;obtain ⟨al,kl,el⟩:=T.out.rx.l.len;obtain ⟨am,km,em⟩:=T.out.rx.m.len;obtain ⟨⟨vb,vl,vm⟩,r⟩:=x;simp only at eb el em;subst eb el em;obtain ⟨ab',kb',eb⟩:=T.out.ry.b.len;obtain ⟨al',kl',el⟩:=T.out.ry.l.len;obtain ⟨am',km',em⟩:=T.out.ry.m.len;obtain ⟨⟨vb,vl,vm⟩,q⟩:=y;simp only at eb el em;subst eb el em;obtain ⟨N,hN⟩:∃ N,30 + (z + 1).toNat = N:=⟨_,rfl⟩;rw [hN] at T
     have hno:N ≤ 41:=by omega
     replace hN:=hid hN
     by_cases hzn:z < (ms.length:Nat)
     ·skip
      have hBd:=(Below.refl wr.heap.size wr).drew
      have cS:∀ W,Below wr.heap.size wr W → (W.cell? ⟨B8,0,none⟩ = some (.slice ab r.base.length kb) ∧ W.cell? ⟨B8,1,none⟩ = some (.int .i64 r.fl.c) ∧ W.cell? ⟨B8,2,none⟩ = some (.int .i64 r.fl.r) ∧ W.cell? ⟨B8,3,none⟩ = some (.slice al r.log.length kl) ∧ W.cell? ⟨B8,4,none⟩ = some (.slice am r.mks.length km) ∧ W.cell? ⟨B10,0,none⟩ = some (.slice ab' q.base.length kb') ∧ W.cell? ⟨B10,1,none⟩ = some (.int .i64 q.fl.c) ∧ W.cell? ⟨B10,2,none⟩ = some (.int .i64 q.fl.r) ∧ W.cell? ⟨B10,3,none⟩ = some (.slice al' q.log.length kl') ∧ W.cell? ⟨B10,4,none⟩ = some (.slice am' q.mks.length km') ∧ Below wr.heap.size wr W):=fun W h => (fun a b => ⟨cell_at a 0,cell_at a 1,cell_at a 2,cell_at a 3,cell_at a 4,cell_at b 0,cell_at b 1,cell_at b 2,cell_at b 3,cell_at b 4,h⟩) (below_at h T.out.h8 (lt_of_block T.out.h8)) (below_at h T.out.h10 (lt_of_block T.out.h10))
      replace cS:=hid cS
      have HT10:=hid (by have h:=Fo.tree_any _ _ (.slice am' q.mks.length km') q.fl q.base q.log wr.drew (RepW.below T.out.ry hBd).b (RepW.below T.out.ry hBd).l (by have:=T.out.iy.len;simp only at this;omega) (by have:=T.out.iy.len;simp only at this;omega) (WfR.okT (T.out.iy.wf (by omega))) (WfR.inR (T.out.iy.wf (by omega)));unfold repV at h;rw [show foldM q.base q.log = treeR r from T.out.rel.tree] at h;exact h:Calls Tryz.prog 16 #[.agg #[.slice ab' q.base.length kb',.int .i64 q.fl.c,.int .i64 q.fl.r,.slice al' q.log.length kl',.slice am' q.mks.length km']] wr.drew fun e w' => (∃ v',e = .returned v' ∧ Mem.Rows w' v' (treeR r)) ∧ Below wr.drew.heap.size wr.drew w')
      have HT8:=hid (fun W (h:Below wr.heap.size wr W) => (by have h:=Fo.tree_any _ _ (.slice am r.mks.length km) r.fl r.base r.log W (RepW.below T.out.rx h).b (RepW.below T.out.rx h).l (by have:=T.out.ix.len;simp only at this;omega) (by have:=T.out.ix.len;simp only at this;omega) (WfR.okT (T.out.ix.wf (by omega))) (WfR.inR (T.out.ix.wf (by omega)));unfold repV at h;exact h:Calls Tryz.prog 16 #[.agg #[.slice ab r.base.length kb,.int .i64 r.fl.c,.int .i64 r.fl.r,.slice al r.log.length kl,.slice am r.mks.length km]] W fun e w' => (∃ v',e = .returned v' ∧ Mem.Rows w' v' (treeR r)) ∧ Below W.heap.size W w'))
      have HSm:=hid (fun W (v1 v2:Value) (h1:Mem.Rows W v1 (treeR r)) (h2:Mem.Rows W v2 (treeR r)) => (by have h:=sameR_any v1 v2 (treeR r) (treeR r) W h1 h2 (rk_fold _ T.out.ix.tree T.out.ix.lone T.out.ix.rk.1 T.out.ix.rk.2) (rk_fold _ T.out.ix.tree T.out.ix.lone T.out.ix.rk.1 T.out.ix.rk.2) (by have:=len_fold r.base r.log;have:=T.out.ix.len;unfold treeR;simp only at this;omega);rw [decide_eq_true rfl] at h;exact h:Calls Tryz.prog 15 #[v1,v2] W fun e w' => e = .returned (.bool true) ∧ Below W.heap.size W w'))
      go_upto_region 13 with fail
      go_region_held3 (fun W:World => W.cell? ⟨B8,0,none⟩ = some (.slice ab r.base.length kb) ∧ W.cell? ⟨B8,1,none⟩ = some (.int .i64 r.fl.c) ∧ W.cell? ⟨B8,2,none⟩ = some (.int .i64 r.fl.r) ∧ W.cell? ⟨B8,3,none⟩ = some (.slice al r.log.length kl) ∧ W.cell? ⟨B8,4,none⟩ = some (.slice am r.mks.length km) ∧ W.cell? ⟨B10,0,none⟩ = some (.slice ab' q.base.length kb') ∧ W.cell? ⟨B10,1,none⟩ = some (.int .i64 q.fl.c) ∧ W.cell? ⟨B10,2,none⟩ = some (.int .i64 q.fl.r) ∧ W.cell? ⟨B10,3,none⟩ = some (.slice al' q.log.length kl') ∧ W.cell? ⟨B10,4,none⟩ = some (.slice am' q.mks.length km') ∧ Below wr.heap.size wr W)
       (first | with_reducible assumption | with_reducible exact cS.out _ hBd | with_reducible exact cS.out _ hba.out | with_reducible exact cS.out _ hbb.out | with_reducible exact cS.out _ hbc.out | with_reducible exact cS.out _ hbe.out)
       (first
        | (go_at_call 16;(with_reducible refine HT10.out.mono ?_);rintro e wa ⟨⟨vt,rfl,ht⟩,ba⟩;obtain ⟨at1,kt1,et⟩:=ht.len;subst et;have hba:=hid (hBd.trans (ba.mono hBd.size));replace ht:=hid ht;clear ba)
        | (go_at_call 16;(with_reducible refine (HT8.out _ hba.out).mono ?_);rintro e wb ⟨⟨vt2,rfl,ht2⟩,bb⟩;have ht1:=Sl.below ht.out bb;obtain ⟨at2,kt2,et⟩:=ht2.len;subst et;have hbb:=hid (hba.out.trans (bb.mono hba.out.size));have HS2:=hid (HSm.out _ _ _ ht1 ht2);clear bb ht1 ht2)
        | (go_at_call 15;(with_reducible refine HS2.out.mono ?_);rintro e wd ⟨rfl,bd⟩;have hbc:=hid (hbb.out.trans (bd.mono hbb.out.size));clear bd))
      all_goals
       have hbc':=hbc.out;have T2:=hid (T.out.below hbc');clear HT10 HT8 HSm HS2 hba hbb hbc cS hBd T ht
       by_cases hz0:z < 0
       ·obtain rfl:z = -1:=by omega
        go_wp2_with fail
        go_roundw
        case rel => exact ⟨0,_,_,by go_num,by omega,by omega,hid (T2.out.mono (by have:=hN.out;omega))⟩
        case measure => simp [intOf]
       ·obtain ⟨j,hj⟩:∃ j:Nat,z = (j:Int):=⟨z.toNat,by omega⟩
        subst hj
        have hjl:j < ms.length:=by omega
        have hj0:(0:Int) ≤ (j:Int):=by omega
        have hw1:IntKind.i64.wrap ((j:Int) + 1) = (j:Int) + 1:=by rw [IntKind.wrap_i64];omega
        obtain ⟨m,hm⟩:=some_at hjl;have hmm:=List.mem_of_getElem? hm;have hmk:=hid (hmr.out m hmm);have hmn:=hid (hnm.out m hmm);replace hm:=hid hm;obtain ⟨bm,om,ea2⟩:=(HM.out _ T2.out.be).addr (show 0 < ms.length by omega);subst ea2;have hN':=hN.out
        have HSV:=hid (by have ok:=T2.out.iy.ok (by omega);have h:=save_any _ _ _ q wd T2.out.ry ok.w ok.k ok.f;unfold repV at h;exact h:Calls Tryz.prog 17 #[.agg #[.slice ab' q.base.length kb',.int .i64 q.fl.c,.int .i64 q.fl.r,.slice al' q.log.length kl',.slice am' q.mks.length km']] wd fun e w' => e = .returned (.tuple #[.string (fileS q),.int .i64 0]) ∧ Below wd.heap.size wd w');obtain ⟨fq,hfq⟩:∃ f,fileS q = f:=⟨_,rfl⟩;rw [hfq] at HSV;replace hfq:=hid hfq;have T2o:=T2.out
        have y0:wd.cell? ⟨B10,0,none⟩ = some (.slice ab' q.base.length kb'):=cell_at T2o.h10 0;have y1:wd.cell? ⟨B10,1,none⟩ = some (.int .i64 q.fl.c):=cell_at T2o.h10 1;have y2:wd.cell? ⟨B10,2,none⟩ = some (.int .i64 q.fl.r):=cell_at T2o.h10 2;have y3:wd.cell? ⟨B10,3,none⟩ = some (.slice al' q.log.length kl'):=cell_at T2o.h10 3;have y4:wd.cell? ⟨B10,4,none⟩ = some (.slice am' q.mks.length km'):=cell_at T2o.h10 4;clear T2o;go_wp2_with fail;refine HSV.out.mono ?_
        rintro e w9 ⟨rfl,b9⟩;have T3:=hid (T2.out.below b9);clear y0 y1 y2 y3 y4 b9 HSV T2;have hms:=HM.out _ T3.out.be;have hml:=sl_lt hms (by omega);obtain ⟨n0,n1,n2,n3,n4,n5⟩:=mov_at hms rfl hm.out
        have cS:∀ W,Below w9.heap.size w9 W → (W.cell? ⟨B8,0,none⟩ = some (.slice ab r.base.length kb) ∧ W.cell? ⟨B8,1,none⟩ = some (.int .i64 r.fl.c) ∧ W.cell? ⟨B8,2,none⟩ = some (.int .i64 r.fl.r) ∧ W.cell? ⟨B8,3,none⟩ = some (.slice al r.log.length kl) ∧ W.cell? ⟨B8,4,none⟩ = some (.slice am r.mks.length km) ∧ W.cell? ⟨bm,om + j * 6,none⟩ = some (.int .i64 m.t.c) ∧ W.cell? ⟨bm,om + j * 6 + 1,none⟩ = some (.int .i64 m.t.r) ∧ W.cell? ⟨bm,om + j * 6 + 2,none⟩ = some (.int .i64 m.pa) ∧ W.cell? ⟨bm,om + j * 6 + 3,none⟩ = some (.int .i64 m.ch) ∧ W.cell? ⟨bm,om + j * 6 + 4,none⟩ = some (.string m.nm) ∧ W.cell? ⟨bm,om + j * 6 + 5,none⟩ = some (.float .f64 m.rk) ∧ Below w9.heap.size w9 W):=fun W h => (fun a => ⟨cell_at a 0,cell_at a 1,cell_at a 2,cell_at a 3,cell_at a 4,(h.cell (p:=⟨bm,om + j * 6,none⟩) hml).trans n0,(h.cell (p:=⟨bm,om + j * 6 + 1,none⟩) hml).trans n1,(h.cell (p:=⟨bm,om + j * 6 + 2,none⟩) hml).trans n2,(h.cell (p:=⟨bm,om + j * 6 + 3,none⟩) hml).trans n3,(h.cell (p:=⟨bm,om + j * 6 + 4,none⟩) hml).trans n4,(h.cell (p:=⟨bm,om + j * 6 + 5,none⟩) hml).trans n5,h⟩) (below_at h T3.out.h8 (lt_of_block T3.out.h8))
        replace cS:=hid cS
        have HAD:=hid (fun W (h:Below w9.heap.size w9 W) => (by have h:=Fo.add_any _ _ _ r m W (RepW.below T3.out.rx h) (T3.out.ix.wf (by omega)) (by have:=hmn.out;omega);unfold repV movV at h;exact h:Calls Tryz.prog 18 #[.agg #[.slice ab r.base.length kb,.int .i64 r.fl.c,.int .i64 r.fl.r,.slice al r.log.length kl,.slice am r.mks.length km],.agg #[.int .i64 m.t.c,.int .i64 m.t.r,.int .i64 m.pa,.int .i64 m.ch,.string m.nm,.float .f64 m.rk]] W fun e w' => (∃ vb' vl' vm',e = .returned (.tuple #[.agg #[vb',.int .i64 (addR r m).1.fl.c,.int .i64 (addR r m).1.fl.r,vl',vm'],.bool (addR r m).2.1,.int .i64 (addR r m).2.2]) ∧ Back W w' (.slice ab r.base.length kb) (.slice al r.log.length kl) (.slice am r.mks.length km) vb' vl' vm' (addR r m).1) ∧ Below W.heap.size W w'))
        obtain ⟨a17,ha17⟩:∃ a,addR r m = a:=⟨_,rfl⟩;rw [ha17] at HAD;replace ha17:=hid ha17;clear hms n0 n1 n2 n3 n4 n5
        go_upto_region 17 with fail
        go_cut [15,16,17] (fun v15 v16 v17 wx => ∃ (B:Nat) (y:X3) (zz:Bool),v15 = .pointer (some ⟨B,0,none⟩) ∧ v16 = .bool zz ∧ v17 = .int .i64 a17.2.2 ∧ Hid (BoxN w9 (⟨.slice ab r.base.length kb,.slice al r.log.length kl,.slice am r.mks.length km⟩,r) a17.1 B y wx))
        case first =>
         have hBd:=(Below.refl w9.heap.size w9).drew;have hBa:=((Below.refl w9.heap.size w9).alloc (Nat.le_refl _) rep0).drew;have gz:(w9.alloc rep0).drew.heap[w9.heap.size]? = some (.cells #[.slice none 0 0,.int .i64 0,.int .i64 0,.slice none 0 0,.slice none 0 0] 34 (0,0)):=alloc_new w9 rep0
         have hsz:w9.heap.size < (w9.alloc rep0).drew.heap.size:=by show _ < (w9.alloc rep0).heap.size;simp
         have HPA:=hid (HAD.out _ hBa);have HPD:=hid (HAD.out _ hBd);replace gz:=hid gz;replace hsz:=hid hsz;unfold rep0 at hBa HPA
         go_region_held3 (fun W:World => W.cell? ⟨B8,0,none⟩ = some (.slice ab r.base.length kb) ∧ W.cell? ⟨B8,1,none⟩ = some (.int .i64 r.fl.c) ∧ W.cell? ⟨B8,2,none⟩ = some (.int .i64 r.fl.r) ∧ W.cell? ⟨B8,3,none⟩ = some (.slice al r.log.length kl) ∧ W.cell? ⟨B8,4,none⟩ = some (.slice am r.mks.length km) ∧ W.cell? ⟨bm,om + j * 6,none⟩ = some (.int .i64 m.t.c) ∧ W.cell? ⟨bm,om + j * 6 + 1,none⟩ = some (.int .i64 m.t.r) ∧ W.cell? ⟨bm,om + j * 6 + 2,none⟩ = some (.int .i64 m.pa) ∧ W.cell? ⟨bm,om + j * 6 + 3,none⟩ = some (.int .i64 m.ch) ∧ W.cell? ⟨bm,om + j * 6 + 4,none⟩ = some (.string m.nm) ∧ W.cell? ⟨bm,om + j * 6 + 5,none⟩ = some (.float .f64 m.rk) ∧ Below w9.heap.size w9 W)
          (first | with_reducible assumption | with_reducible exact cS.out _ hBd | with_reducible exact cS.out _ hBa | with_reducible exact cS.out _ hb6.out | with_reducible exact cS.out _ (hb6.out.alloc hb6.out.size _) | exact cS.out _ (set5_below hb6.out (Nat.le_refl _) 0 _ _ _ _ _))
          (first
           | (go_at_call 18;(with_reducible refine HPA.out.mono ?_);rintro e w6 ⟨⟨vb',vl',vm',rfl,hB⟩,b6⟩;obtain ⟨pb,qb,eb⟩:=hB.r.b.len;subst eb;obtain ⟨pl,ql,el⟩:=hB.r.l.len;subst el;obtain ⟨pm,qm,em⟩:=hB.r.m.len;subst em;have kk:=below_at b6 gz.out hsz.out;have f0:=free_at kk 0;have f1:=free_at kk 1;have f2:=free_at kk 2;have f3:=free_at kk 3;have f4:=free_at kk 4;have u0:=(show w6.cell? ⟨w9.heap.size,0,none⟩ = some _ from cell_at kk 0);have u1:=(show w6.cell? ⟨w9.heap.size,1,none⟩ = some _ from cell_at kk 1);have u2:=(show w6.cell? ⟨w9.heap.size,2,none⟩ = some _ from cell_at kk 2);have u3:=(show w6.cell? ⟨w9.heap.size,3,none⟩ = some _ from cell_at kk 3);have u4:=(show w6.cell? ⟨w9.heap.size,4,none⟩ = some _ from cell_at kk 4);have hb6:=hid (hBa.trans (b6.mono hBa.size));have hbx:=hid (boxN_old (x:=(⟨.slice ab r.base.length kb,.slice al r.log.length kl,.slice am r.mks.length km⟩,r)) T3.out.rx hB b6);clear hB b6 kk)
           | (go_at_call 18;(with_reducible refine HPD.out.mono ?_);rintro e w6 ⟨⟨vb',vl',vm',rfl,hB⟩,b6⟩;obtain ⟨pb,qb,eb⟩:=hB.r.b.len;subst eb;obtain ⟨pl,ql,el⟩:=hB.r.l.len;subst el;obtain ⟨pm,qm,em⟩:=hB.r.m.len;subst em;have hb6:=hid (hBd.trans (b6.mono hBd.size));have hbx:=hid (boxN_new (W:=w9) (x:=(⟨.slice ab r.base.length kb,.slice al r.log.length kl,.slice am r.mks.length km⟩,r)) hB b6);clear hB b6))
         all_goals
          go_wp2_with fail
          go_meet
          exact ⟨_,_,_,rfl,rfl,rfl,hbx⟩
        case rest =>
         clear HAD cS;obtain ⟨B15,ya,z16,h15,h16,h17,hBA⟩:=hcut;subst h15 h16 h17;obtain ⟨wA,hwA⟩:∃ wA,wA = wc:=⟨_,rfl⟩;subst hwA;have hAu:=hBA.out.o.y;obtain ⟨⟨vb,vl,vm⟩,u⟩:=ya;have hyq:=hBA.out.o.y;simp only at hyq;subst hyq;obtain ⟨pa,qa,eb⟩:=hBA.out.o.r.b.len;obtain ⟨pb,qb,el⟩:=hBA.out.o.r.l.len;obtain ⟨pc,qc,em⟩:=hBA.out.o.r.m.len;simp only at eb el em;subst eb el em;have T4:=hid (T3.out.below hBA.out.o.b);have hBA15:=lt_of_block hBA.out.o.h;have s3:=hBA.out.o.b.size;have hms:=HM.out _ T4.out.be
         have hml:=sl_lt hms (by omega);obtain ⟨n0,n1,n2,n3,n4,n5⟩:=mov_at hms rfl hm.out
         have cS:∀ W,Below wA.heap.size wA W → (W.cell? ⟨B10,0,none⟩ = some (.slice ab' q.base.length kb') ∧ W.cell? ⟨B10,1,none⟩ = some (.int .i64 q.fl.c) ∧ W.cell? ⟨B10,2,none⟩ = some (.int .i64 q.fl.r) ∧ W.cell? ⟨B10,3,none⟩ = some (.slice al' q.log.length kl') ∧ W.cell? ⟨B10,4,none⟩ = some (.slice am' q.mks.length km') ∧ W.cell? ⟨bm,om + j * 6,none⟩ = some (.int .i64 m.t.c) ∧ W.cell? ⟨bm,om + j * 6 + 1,none⟩ = some (.int .i64 m.t.r) ∧ W.cell? ⟨bm,om + j * 6 + 2,none⟩ = some (.int .i64 m.pa) ∧ W.cell? ⟨bm,om + j * 6 + 3,none⟩ = some (.int .i64 m.ch) ∧ W.cell? ⟨bm,om + j * 6 + 4,none⟩ = some (.string m.nm) ∧ W.cell? ⟨bm,om + j * 6 + 5,none⟩ = some (.float .f64 m.rk) ∧ Below wA.heap.size wA W):=fun W h => (fun a => ⟨cell_at a 0,cell_at a 1,cell_at a 2,cell_at a 3,cell_at a 4,(h.cell (p:=⟨bm,om + j * 6,none⟩) hml).trans n0,(h.cell (p:=⟨bm,om + j * 6 + 1,none⟩) hml).trans n1,(h.cell (p:=⟨bm,om + j * 6 + 2,none⟩) hml).trans n2,(h.cell (p:=⟨bm,om + j * 6 + 3,none⟩) hml).trans n3,(h.cell (p:=⟨bm,om + j * 6 + 4,none⟩) hml).trans n4,(h.cell (p:=⟨bm,om + j * 6 + 5,none⟩) hml).trans n5,h⟩) (below_at h T4.out.h10 (lt_of_block T4.out.h10))
         replace cS:=hid cS
         have HAD:=hid (fun W (h:Below wA.heap.size wA W) => (by have h:=Fo.add_any _ _ _ q m W (RepW.below T4.out.ry h) (T4.out.iy.wf (by omega)) (by have:=hmn.out;omega);unfold repV movV at h;exact h:Calls Tryz.prog 18 #[.agg #[.slice ab' q.base.length kb',.int .i64 q.fl.c,.int .i64 q.fl.r,.slice al' q.log.length kl',.slice am' q.mks.length km'],.agg #[.int .i64 m.t.c,.int .i64 m.t.r,.int .i64 m.pa,.int .i64 m.ch,.string m.nm,.float .f64 m.rk]] W fun e w' => (∃ vb' vl' vm',e = .returned (.tuple #[.agg #[vb',.int .i64 (addR q m).1.fl.c,.int .i64 (addR q m).1.fl.r,vl',vm'],.bool (addR q m).2.1,.int .i64 (addR q m).2.2]) ∧ Back W w' (.slice ab' q.base.length kb') (.slice al' q.log.length kl') (.slice am' q.mks.length km') vb' vl' vm' (addR q m).1) ∧ Below W.heap.size W w'))
         obtain ⟨a18,ha18⟩:∃ a,addR q m = a:=⟨_,rfl⟩;rw [ha18] at HAD;replace ha18:=hid ha18;clear hms n0 n1 n2 n3 n4 n5
         go_upto_region 18 with fail
         go_cut [18,19,20] (fun v18 v19 v20 wx => ∃ (B:Nat) (y:X3) (zz:Bool),v18 = .pointer (some ⟨B,0,none⟩) ∧ v19 = .bool zz ∧ v20 = .int .i64 a18.2.2 ∧ Hid (BoxN wA (⟨.slice ab' q.base.length kb',.slice al' q.log.length kl',.slice am' q.mks.length km'⟩,q) a18.1 B y wx))
         case first =>
          have hBd:=(Below.refl wA.heap.size wA).drew;have hBa:=((Below.refl wA.heap.size wA).alloc (Nat.le_refl _) rep0).drew;have gz:(wA.alloc rep0).drew.heap[wA.heap.size]? = some (.cells #[.slice none 0 0,.int .i64 0,.int .i64 0,.slice none 0 0,.slice none 0 0] 34 (0,0)):=alloc_new wA rep0
          have hsz:wA.heap.size < (wA.alloc rep0).drew.heap.size:=by show _ < (wA.alloc rep0).heap.size;simp
          have HPA:=hid (HAD.out _ hBa);have HPD:=hid (HAD.out _ hBd);replace gz:=hid gz;replace hsz:=hid hsz;unfold rep0 at hBa HPA
          go_region_held3 (fun W:World => W.cell? ⟨B10,0,none⟩ = some (.slice ab' q.base.length kb') ∧ W.cell? ⟨B10,1,none⟩ = some (.int .i64 q.fl.c) ∧ W.cell? ⟨B10,2,none⟩ = some (.int .i64 q.fl.r) ∧ W.cell? ⟨B10,3,none⟩ = some (.slice al' q.log.length kl') ∧ W.cell? ⟨B10,4,none⟩ = some (.slice am' q.mks.length km') ∧ W.cell? ⟨bm,om + j * 6,none⟩ = some (.int .i64 m.t.c) ∧ W.cell? ⟨bm,om + j * 6 + 1,none⟩ = some (.int .i64 m.t.r) ∧ W.cell? ⟨bm,om + j * 6 + 2,none⟩ = some (.int .i64 m.pa) ∧ W.cell? ⟨bm,om + j * 6 + 3,none⟩ = some (.int .i64 m.ch) ∧ W.cell? ⟨bm,om + j * 6 + 4,none⟩ = some (.string m.nm) ∧ W.cell? ⟨bm,om + j * 6 + 5,none⟩ = some (.float .f64 m.rk) ∧ Below wA.heap.size wA W)
           (first | with_reducible assumption | with_reducible exact cS.out _ hBd | with_reducible exact cS.out _ hBa | with_reducible exact cS.out _ hb6.out | with_reducible exact cS.out _ (hb6.out.alloc hb6.out.size _) | exact cS.out _ (set5_below hb6.out (Nat.le_refl _) 0 _ _ _ _ _))
           (first
            | (go_at_call 18;(with_reducible refine HPA.out.mono ?_);rintro e w6 ⟨⟨vb',vl',vm',rfl,hB⟩,b6⟩;obtain ⟨pb,qb,eb⟩:=hB.r.b.len;subst eb;obtain ⟨pl,ql,el⟩:=hB.r.l.len;subst el;obtain ⟨pm,qm,em⟩:=hB.r.m.len;subst em;have kk:=below_at b6 gz.out hsz.out;have f0:=free_at kk 0;have f1:=free_at kk 1;have f2:=free_at kk 2;have f3:=free_at kk 3;have f4:=free_at kk 4;have u0:=(show w6.cell? ⟨wA.heap.size,0,none⟩ = some _ from cell_at kk 0);have u1:=(show w6.cell? ⟨wA.heap.size,1,none⟩ = some _ from cell_at kk 1);have u2:=(show w6.cell? ⟨wA.heap.size,2,none⟩ = some _ from cell_at kk 2);have u3:=(show w6.cell? ⟨wA.heap.size,3,none⟩ = some _ from cell_at kk 3);have u4:=(show w6.cell? ⟨wA.heap.size,4,none⟩ = some _ from cell_at kk 4);have hb6:=hid (hBa.trans (b6.mono hBa.size));have hbx:=hid (boxN_old (x:=(⟨.slice ab' q.base.length kb',.slice al' q.log.length kl',.slice am' q.mks.length km'⟩,q)) T4.out.ry hB b6);clear hB b6 kk)
            | (go_at_call 18;(with_reducible refine HPD.out.mono ?_);rintro e w6 ⟨⟨vb',vl',vm',rfl,hB⟩,b6⟩;obtain ⟨pb,qb,eb⟩:=hB.r.b.len;subst eb;obtain ⟨pl,ql,el⟩:=hB.r.l.len;subst el;obtain ⟨pm,qm,em⟩:=hB.r.m.len;subst em;have hb6:=hid (hBd.trans (b6.mono hBd.size));have hbx:=hid (boxN_new (W:=wA) (x:=(⟨.slice ab' q.base.length kb',.slice al' q.log.length kl',.slice am' q.mks.length km'⟩,q)) hB b6);clear hB b6))
          all_goals
           go_wp2_with fail
           go_meet
           exact ⟨_,_,_,rfl,rfl,rfl,hbx⟩
         case rest =>
          clear HAD cS;obtain ⟨B18,yb,z19,h18,h19,h20,hBB⟩:=hcut;subst h18 h19 h20;obtain ⟨wB,hwB⟩:∃ wB,wB = wc:=⟨_,rfl⟩;subst hwB;obtain ⟨⟨vb,vl,vm⟩,s⟩:=yb;have hyq:=hBB.out.o.y;simp only at hyq;subst hyq;obtain ⟨pd,qd,eb⟩:=hBB.out.o.r.b.len;obtain ⟨pe,qe,el⟩:=hBB.out.o.r.l.len;obtain ⟨pf,qf,em⟩:=hBB.out.o.r.m.len;simp only at eb el em;subst eb el em;have T5:=hid (T4.out.below hBB.out.o.b);have hIb:=hid (by have h:=inv_add T4.out.iy hmk.out;rw [ha18.out] at h;exact h:InvR (N + 1) a18.1)
          have hIa:=hid (by have h:=inv_add T3.out.ix hmk.out;rw [ha17.out] at h;exact h:InvR (N + 1) a17.1);have HSV2:=hid (by have ok:=hIb.out.ok (by omega);have h:=save_any _ _ _ a18.1 wB hBB.out.o.r ok.w ok.k ok.f;unfold repV at h;exact h:Calls Tryz.prog 17 #[.agg #[.slice pd a18.1.base.length qd,.int .i64 a18.1.fl.c,.int .i64 a18.1.fl.r,.slice pe a18.1.log.length qe,.slice pf a18.1.mks.length qf]] wB fun e w' => e = .returned (.tuple #[.string (fileS a18.1),.int .i64 0]) ∧ Below wB.heap.size wB w')
          obtain ⟨fs,hfs⟩:∃ f,fileS a18.1 = f:=⟨_,rfl⟩;rw [hfs] at HSV2;replace hfs:=hid hfs;have hBBh:=hBB.out.o.h;have s0:wB.cell? ⟨B18,0,none⟩ = some (.slice pd a18.1.base.length qd):=cell_at hBBh 0;have s1:wB.cell? ⟨B18,1,none⟩ = some (.int .i64 a18.1.fl.c):=cell_at hBBh 1;have s2:wB.cell? ⟨B18,2,none⟩ = some (.int .i64 a18.1.fl.r):=cell_at hBBh 2;have s3':wB.cell? ⟨B18,3,none⟩ = some (.slice pe a18.1.log.length qe):=cell_at hBBh 3;have s4:wB.cell? ⟨B18,4,none⟩ = some (.slice pf a18.1.mks.length qf):=cell_at hBBh 4
          clear hBBh;go_wp2_with fail;refine HSV2.out.mono ?_
          rintro e w11 ⟨rfl,b11⟩;have T6:=hid (T5.out.below b11);have hAb:=hBB.out.o.b.trans (b11.mono hBB.out.o.b.size);have gA:=hid (below_at hAb hBA.out.o.h (lt_of_block hBA.out.o.h));have gB:=hid (below_at b11 hBB.out.o.h (lt_of_block hBB.out.o.h));have rA:=hid (RepW.below hBA.out.o.r hAb);have rB:=hid (RepW.below hBB.out.o.r b11);have hl9:=lt_of_block T3.out.h8;have hl9':=lt_of_block T3.out.h10;have hlA:=lt_of_block T4.out.h8;have hlA':=lt_of_block T4.out.h10;have gA1:=hBA.out.g;have gB1:=hBB.out.g
          have nA:=hid (fun k (hk:blocks (⟨.slice pa a17.1.base.length qa,.slice pb a17.1.log.length qb,.slice pc a17.1.mks.length qc⟩,a17.1) k) => (hBA.out.n k hk).elim (fun h => T3.out.nx k h) (fun h => ⟨by omega,by omega⟩));have nB:=hid (fun k (hk:blocks (⟨.slice pd a18.1.base.length qd,.slice pe a18.1.log.length qe,.slice pf a18.1.mks.length qf⟩,a18.1) k) => (hBB.out.n k hk).elim (fun h => T4.out.ny k h) (fun h => ⟨by omega,by omega⟩));have hneq:B15 ≠ B8 ∧ B15 ≠ B10 ∧ B18 ≠ B8 ∧ B18 ≠ B10:=⟨by omega,by omega,by omega,by omega⟩
          obtain ⟨ne1,ne2,ne3,ne4⟩:=hneq;have hms:=HM.out _ T6.out.be;have hml:=sl_lt hms (by omega);obtain ⟨n0,n1,n2,n3,n4,n5⟩:=mov_at hms rfl hm.out;have hS1:=(Below.refl w11.heap.size w11).drew
          haveI hne0:Nonempty (Held (Below w11.heap.size w11)):=⟨⟨_,hS1⟩⟩
          have cm0:∀ q':Held (Below w11.heap.size w11),q'.w.cell? ⟨bm,om + j * 6,none⟩ = some (.int .i64 m.t.c):=fun q' => (q'.h.cell (p:=⟨bm,om + j * 6,none⟩) hml).trans n0
          have cm1:∀ q':Held (Below w11.heap.size w11),q'.w.cell? ⟨bm,om + j * 6 + 1,none⟩ = some (.int .i64 m.t.r):=fun q' => (q'.h.cell (p:=⟨bm,om + j * 6 + 1,none⟩) hml).trans n1
          have cm2:∀ q':Held (Below w11.heap.size w11),q'.w.cell? ⟨bm,om + j * 6 + 2,none⟩ = some (.int .i64 m.pa):=fun q' => (q'.h.cell (p:=⟨bm,om + j * 6 + 2,none⟩) hml).trans n2
          have cm3:∀ q':Held (Below w11.heap.size w11),q'.w.cell? ⟨bm,om + j * 6 + 3,none⟩ = some (.int .i64 m.ch):=fun q' => (q'.h.cell (p:=⟨bm,om + j * 6 + 3,none⟩) hml).trans n3
          have cm4:∀ q':Held (Below w11.heap.size w11),q'.w.cell? ⟨bm,om + j * 6 + 4,none⟩ = some (.string m.nm):=fun q' => (q'.h.cell (p:=⟨bm,om + j * 6 + 4,none⟩) hml).trans n4
          have cm5:∀ q':Held (Below w11.heap.size w11),q'.w.cell? ⟨bm,om + j * 6 + 5,none⟩ = some (.float .f64 m.rk):=fun q' => (q'.h.cell (p:=⟨bm,om + j * 6 + 5,none⟩) hml).trans n5
          have cf1:∀ q':Held (Below w11.heap.size w11),q'.w.cell? ⟨B10,1,none⟩ = some (.int .i64 q.fl.c):=fun q' => cell_at (below_at q'.h T6.out.h10 (lt_of_block T6.out.h10)) 1
          have cf2:∀ q':Held (Below w11.heap.size w11),q'.w.cell? ⟨B10,2,none⟩ = some (.int .i64 q.fl.r):=fun q' => cell_at (below_at q'.h T6.out.h10 (lt_of_block T6.out.h10)) 2
          have HOne:=hid (fun q':Held (Below w11.heap.size w11) => (by have h:=held_calls ((one_any m q'.w (by have:=hmn.out;omega)).mono fun e w' (c:_ ∧ Below q'.w.heap.size q'.w w') => And.intro c.1 (q'.h.trans (c.2.mono q'.h.size)));unfold movV at h;exact h:Calls Tryz.prog 19 #[.agg #[.int .i64 m.t.c,.int .i64 m.t.r,.int .i64 m.pa,.int .i64 m.ch,.string m.nm,.float .f64 m.rk]] q'.w fun e w' => e = .returned (.bool (oneM m)) ∧ ∃ q'':Held (Below w11.heap.size w11),w' = q''.w))
          have HBef:=hid (fun q':Held (Below w11.heap.size w11) => (by have h:=held_calls ((Fl.rbefore_any q.fl.c q.fl.r m.t.c m.t.r q'.w).mono fun e w' (c:_ ∧ Below q'.w.heap.size q'.w w') => And.intro c.1 (q'.h.trans (c.2.mono q'.h.size)));rw [ahead_bef] at h;exact h:Calls Tryz.prog 20 #[.agg #[.int .i64 q.fl.c,.int .i64 q.fl.r],.agg #[.int .i64 m.t.c,.int .i64 m.t.r]] q'.w fun e w' => e = .returned (.bool (bef q.fl m.t)) ∧ ∃ q'':Held (Below w11.heap.size w11),w' = q''.w))
          clear hms n0 n1 n2 n3 n4 n5 s0 s1 s2 s3' s4 HSV2 b11 hAb hl9 hl9' hlA hlA' gA1 gB1
          by_cases h1:oneM m = true
          ·rw [h1] at HOne
           by_cases h2:bef q.fl m.t = true
           ·have hns:=hid (show ¬ (oneM m = true ∧ bef q.fl m.t = false) from fun e => by rw [h2] at e;exact absurd e.2 (by simp))
            rw [h2] at HBef;replace h1:=hid h1;replace h2:=hid h2;go_wp2_with fail;refine wp_region_class (Below w11.heap.size w11) (by kernel_rfl) (by kernel_rfl) hS1 ?_
            repeat (go_big_quiet_step ((first | (go_at_call 19;with_reducible exact HOne.out _) | (go_at_call 20;with_reducible exact HBef.out _))))
            refine wpQuiet_nil ?_
            intro Wq hw';obtain ⟨⟨Wz,hq⟩,hw''⟩:=hw';subst hw'';have T7:=hid (T6.out.below hq);have gA7:=below_at hq gA.out (lt_of_block gA.out);have gB7:=below_at hq gB.out (lt_of_block gB.out);have rA7:=hid (RepW.below rA.out hq);have rB7:=hid (RepW.below rB.out hq);clear hq hS1 hne0 cf1 cf2 cm0 cm1 cm2 cm3 cm4 cm5 HOne HBef T6 gA gB rA rB;obtain ⟨hcode,hrel2⟩:=rel_add T7.out.rel hns.out;simp only at hcode hrel2;rw [ha17.out,ha18.out] at hcode hrel2;rw [hcode];replace hrel2:=hid hrel2;replace hcode:=hid hcode
            have x0:Wq.cell? ⟨B15,0,none⟩ = some (.slice pa a17.1.base.length qa):=cell_at gA7 0;have x1:Wq.cell? ⟨B15,1,none⟩ = some (.int .i64 a17.1.fl.c):=cell_at gA7 1;have x2:Wq.cell? ⟨B15,2,none⟩ = some (.int .i64 a17.1.fl.r):=cell_at gA7 2;have x3:Wq.cell? ⟨B15,3,none⟩ = some (.slice pb a17.1.log.length qb):=cell_at gA7 3;have x4:Wq.cell? ⟨B15,4,none⟩ = some (.slice pc a17.1.mks.length qc):=cell_at gA7 4
            have oneA:Hid (∀ v ∈ [Value.slice pa a17.1.base.length qa,.int .i64 a17.1.fl.c,.int .i64 a17.1.fl.r,.slice pb a17.1.log.length qb,.slice pc a17.1.mks.length qc],v.oneCell' = true):=hid (by
             intro v hv;simp only [List.mem_cons,List.not_mem_nil,or_false] at hv
             rcases hv with rfl | rfl | rfl | rfl | rfl <;> rfl)
            have oneB:Hid (∀ v ∈ [Value.slice pd a18.1.base.length qd,.int .i64 a18.1.fl.c,.int .i64 a18.1.fl.r,.slice pe a18.1.log.length qe,.slice pf a18.1.mks.length qf],v.oneCell' = true):=hid (by
             intro v hv;simp only [List.mem_cons,List.not_mem_nil,or_false] at hv
             rcases hv with rfl | rfl | rfl | rfl | rfl <;> rfl)
            have gB7':=hid gB7;have h87:=T7.out.h8;have h107:=hid T7.out.h10;unfold rpO repO at h87;simp only at h87;clear gA7 gB7
            go_upto_region 26 with (refine wpList_store_splice (by rfl) 34 _ _ (by rfl) B8 0 [Value.slice pa a17.1.base.length qa,.int .i64 a17.1.fl.c,.int .i64 a17.1.fl.r,.slice pb a17.1.log.length qb,.slice pc a17.1.mks.length qc] (by rfl) (by rfl) 34 [.slice ab r.base.length kb,.int .i64 r.fl.c,.int .i64 r.fl.r,.slice al r.log.length kl,.slice am r.mks.length km] h87 (info_rep.trans rfl) (by simp) oneA.out ?_;intro w12 hg12 hB12 hO12;have gB12:=(hO12.out B18 ne3).trans gB7'.out;have h1012:=(hO12.out B10 (Ne.symm hne.out)).trans h107.out;unfold rpO repO at gB12 h1012;simp only at gB12 h1012;have z0:=cell_at gB12 0;have z1:=cell_at gB12 1;have z2:=cell_at gB12 2;have z3:=cell_at gB12 3;have z4:=cell_at gB12 4;simp only [List.getElem?_toArray,List.getElem?_cons_zero,List.getElem?_cons_succ] at z0 z1 z2 z3 z4)
            go_wp2_with (refine wpList_store_splice (by rfl) 34 _ _ (by rfl) B10 0 [Value.slice pd a18.1.base.length qd,.int .i64 a18.1.fl.c,.int .i64 a18.1.fl.r,.slice pe a18.1.log.length qe,.slice pf a18.1.mks.length qf] (by rfl) (by rfl) 34 [.slice ab' q.base.length kb',.int .i64 q.fl.c,.int .i64 q.fl.r,.slice al' q.log.length kl',.slice am' q.mks.length km'] h1012 (info_rep.trans rfl) (by simp) oneB.out ?_;intro w13 hg13 hB13 hO13)
            have TN:=hid (T7.out.set (a:=(⟨.slice pa a17.1.base.length qa,.slice pb a17.1.log.length qb,.slice pc a17.1.mks.length qc⟩,a17.1)) (b:=(⟨.slice pd a18.1.base.length qd,.slice pe a18.1.log.length qe,.slice pf a18.1.mks.length qf⟩,a18.1)) hne.out hb4s.out hb6s.out rA7.out rB7.out nA.out nB.out (hg12.out.trans rfl) hO12.out (fun B w0 h hB => hB12.out B w0 h hB) (hg13.out.trans rfl) hO13.out (fun B w0 h hB => hB13.out B w0 h hB) hrel2.out (hIa.out) (hIb.out))
            have hN1:N + 1 = 30 + ((j:Int) + 1 + 1).toNat:=by have:=hN.out;omega
            rw [hN1] at TN;exact ⟨⟨(j:Int) + 1,(⟨.slice pa a17.1.base.length qa,.slice pb a17.1.log.length qb,.slice pc a17.1.mks.length qc⟩,a17.1),(⟨.slice pd a18.1.base.length qd,.slice pe a18.1.log.length qe,.slice pf a18.1.mks.length qf⟩,a18.1),rfl,by omega,by omega,TN⟩,by show ((ms.length:Int) + 1 - ((j:Int) + 1 + 1)).toNat < ((ms.length:Int) + 1 - ((j:Int) + 1)).toNat;omega⟩
           ·have h2':bef q.fl m.t = false:=by simpa using h2
            rw [h2'] at HBef;have e18:a18 = (q,false,9):=ha18.out.symm.trans (addR_stale h1 h2');replace h1:=hid h1;replace h2:=hid h2;replace h2':=hid h2'
            have ec:a18.2.2 = 9:=by rw [e18]
            have es:Hid (sameP a18.1 q = true):=hid (by rw [e18];exact sameP_self q)
            obtain rfl:fs = fq:=by rw [← hfs.out,← hfq.out,e18]
            rw [ec];replace e18:=hid e18;replace ec:=hid ec;go_wp2_with fail;refine wp_region_class (Below w11.heap.size w11) (by kernel_rfl) (by kernel_rfl) hS1 ?_
            repeat (go_big_quiet_step ((first | (go_at_call 19;with_reducible exact HOne.out _) | (go_at_call 20;with_reducible exact HBef.out _))))
            refine wpQuiet_nil ?_
            intro Wq hw';obtain ⟨⟨Wz,hq⟩,hw''⟩:=hw';subst hw'';have T7:=hid (T6.out.below hq);have gA7:=below_at hq gA.out (lt_of_block gA.out);have gB7:=below_at hq gB.out (lt_of_block gB.out);have rA7:=hid (RepW.below rA.out hq);have rB7:=hid (RepW.below rB.out hq);clear hq hS1 hne0 cf1 cf2 cm0 cm1 cm2 cm3 cm4 cm5 HOne HBef T6 gA gB rA rB
            have HSP:=hid (by have h:=sameP_any (⟨.slice pd a18.1.base.length qd,.slice pe a18.1.log.length qe,.slice pf a18.1.mks.length qf⟩,a18.1) (⟨.slice ab' q.base.length kb',.slice al' q.log.length kl',.slice am' q.mks.length km'⟩,q) Wq rB7.out T7.out.ry (hIb.out.wf (by omega)) (T7.out.iy.wf (by omega)) hIb.out.rk T7.out.iy.rk;rw [es.out] at h;exact h:Calls Tryz.prog 14 #[.agg #[.slice pd a18.1.base.length qd,.int .i64 a18.1.fl.c,.int .i64 a18.1.fl.r,.slice pe a18.1.log.length qe,.slice pf a18.1.mks.length qf],.agg #[.slice ab' q.base.length kb',.int .i64 q.fl.c,.int .i64 q.fl.r,.slice al' q.log.length kl',.slice am' q.mks.length km']] Wq fun e w' => e = .returned (.bool true) ∧ Below Wq.heap.size Wq w')
            have h107:=T7.out.h10;have z0:Wq.cell? ⟨B18,0,none⟩ = some (.slice pd a18.1.base.length qd):=cell_at gB7 0;have z1:Wq.cell? ⟨B18,1,none⟩ = some (.int .i64 a18.1.fl.c):=cell_at gB7 1;have z2:Wq.cell? ⟨B18,2,none⟩ = some (.int .i64 a18.1.fl.r):=cell_at gB7 2;have z3:Wq.cell? ⟨B18,3,none⟩ = some (.slice pe a18.1.log.length qe):=cell_at gB7 3;have z4:Wq.cell? ⟨B18,4,none⟩ = some (.slice pf a18.1.mks.length qf):=cell_at gB7 4;have y0:Wq.cell? ⟨B10,0,none⟩ = some (.slice ab' q.base.length kb'):=cell_at h107 0
            have y1:Wq.cell? ⟨B10,1,none⟩ = some (.int .i64 q.fl.c):=cell_at h107 1;have y2:Wq.cell? ⟨B10,2,none⟩ = some (.int .i64 q.fl.r):=cell_at h107 2;have y3:Wq.cell? ⟨B10,3,none⟩ = some (.slice al' q.log.length kl'):=cell_at h107 3;have y4:Wq.cell? ⟨B10,4,none⟩ = some (.slice am' q.mks.length km'):=cell_at h107 4;clear gA7 gB7 h107;go_wp2_with fail;refine HSP.out.mono ?_
            rintro e w14 ⟨rfl,b14⟩;have TN:=hid ((T7.out.below b14).mono (show N ≤ N + 1 by omega));clear z0 z1 z2 z3 z4 y0 y1 y2 y3 y4 b14;go_wp2_with fail
            have hN1:N + 1 = 30 + ((j:Int) + 1 + 1).toNat:=by have:=hN.out;omega
            rw [hN1] at TN;exact ⟨⟨(j:Int) + 1,(⟨.slice ab r.base.length kb,.slice al r.log.length kl,.slice am r.mks.length km⟩,r),(⟨.slice ab' q.base.length kb',.slice al' q.log.length kl',.slice am' q.mks.length km'⟩,q),rfl,by omega,by omega,TN⟩,by show ((ms.length:Int) + 1 - ((j:Int) + 1 + 1)).toNat < ((ms.length:Int) + 1 - ((j:Int) + 1)).toNat;omega⟩
          ·have hns:=hid (show ¬ (oneM m = true ∧ bef q.fl m.t = false) from fun e => h1 e.1)
           rw [show oneM m = false by simpa using h1] at HOne;replace h1:=hid h1;go_wp2_with fail;refine wp_region_class (Below w11.heap.size w11) (by kernel_rfl) (by kernel_rfl) hS1 ?_
           repeat (go_big_quiet_step ((first | (go_at_call 19;with_reducible exact HOne.out _) | (go_at_call 20;with_reducible exact HBef.out _))))
           refine wpQuiet_nil ?_
           intro Wq hw';obtain ⟨⟨Wz,hq⟩,hw''⟩:=hw';subst hw'';have T7:=hid (T6.out.below hq);have gA7:=below_at hq gA.out (lt_of_block gA.out);have gB7:=below_at hq gB.out (lt_of_block gB.out);have rA7:=hid (RepW.below rA.out hq);have rB7:=hid (RepW.below rB.out hq);clear hq hS1 hne0 cf1 cf2 cm0 cm1 cm2 cm3 cm4 cm5 HOne HBef T6 gA gB rA rB;obtain ⟨hcode,hrel2⟩:=rel_add T7.out.rel hns.out;simp only at hcode hrel2;rw [ha17.out,ha18.out] at hcode hrel2;rw [hcode];replace hrel2:=hid hrel2;replace hcode:=hid hcode
           have x0:Wq.cell? ⟨B15,0,none⟩ = some (.slice pa a17.1.base.length qa):=cell_at gA7 0;have x1:Wq.cell? ⟨B15,1,none⟩ = some (.int .i64 a17.1.fl.c):=cell_at gA7 1;have x2:Wq.cell? ⟨B15,2,none⟩ = some (.int .i64 a17.1.fl.r):=cell_at gA7 2;have x3:Wq.cell? ⟨B15,3,none⟩ = some (.slice pb a17.1.log.length qb):=cell_at gA7 3;have x4:Wq.cell? ⟨B15,4,none⟩ = some (.slice pc a17.1.mks.length qc):=cell_at gA7 4
           have oneA:Hid (∀ v ∈ [Value.slice pa a17.1.base.length qa,.int .i64 a17.1.fl.c,.int .i64 a17.1.fl.r,.slice pb a17.1.log.length qb,.slice pc a17.1.mks.length qc],v.oneCell' = true):=hid (by
            intro v hv;simp only [List.mem_cons,List.not_mem_nil,or_false] at hv
            rcases hv with rfl | rfl | rfl | rfl | rfl <;> rfl)
           have oneB:Hid (∀ v ∈ [Value.slice pd a18.1.base.length qd,.int .i64 a18.1.fl.c,.int .i64 a18.1.fl.r,.slice pe a18.1.log.length qe,.slice pf a18.1.mks.length qf],v.oneCell' = true):=hid (by
            intro v hv;simp only [List.mem_cons,List.not_mem_nil,or_false] at hv
            rcases hv with rfl | rfl | rfl | rfl | rfl <;> rfl)
           have gB7':=hid gB7;have h87:=T7.out.h8;have h107:=hid T7.out.h10;unfold rpO repO at h87;simp only at h87;clear gA7 gB7
           go_upto_region 26 with (refine wpList_store_splice (by rfl) 34 _ _ (by rfl) B8 0 [Value.slice pa a17.1.base.length qa,.int .i64 a17.1.fl.c,.int .i64 a17.1.fl.r,.slice pb a17.1.log.length qb,.slice pc a17.1.mks.length qc] (by rfl) (by rfl) 34 [.slice ab r.base.length kb,.int .i64 r.fl.c,.int .i64 r.fl.r,.slice al r.log.length kl,.slice am r.mks.length km] h87 (info_rep.trans rfl) (by simp) oneA.out ?_;intro w12 hg12 hB12 hO12;have gB12:=(hO12.out B18 ne3).trans gB7'.out;have h1012:=(hO12.out B10 (Ne.symm hne.out)).trans h107.out;unfold rpO repO at gB12 h1012;simp only at gB12 h1012;have z0:=cell_at gB12 0;have z1:=cell_at gB12 1;have z2:=cell_at gB12 2;have z3:=cell_at gB12 3;have z4:=cell_at gB12 4;simp only [List.getElem?_toArray,List.getElem?_cons_zero,List.getElem?_cons_succ] at z0 z1 z2 z3 z4)
           go_wp2_with (refine wpList_store_splice (by rfl) 34 _ _ (by rfl) B10 0 [Value.slice pd a18.1.base.length qd,.int .i64 a18.1.fl.c,.int .i64 a18.1.fl.r,.slice pe a18.1.log.length qe,.slice pf a18.1.mks.length qf] (by rfl) (by rfl) 34 [.slice ab' q.base.length kb',.int .i64 q.fl.c,.int .i64 q.fl.r,.slice al' q.log.length kl',.slice am' q.mks.length km'] h1012 (info_rep.trans rfl) (by simp) oneB.out ?_;intro w13 hg13 hB13 hO13)
           have TN:=hid (T7.out.set (a:=(⟨.slice pa a17.1.base.length qa,.slice pb a17.1.log.length qb,.slice pc a17.1.mks.length qc⟩,a17.1)) (b:=(⟨.slice pd a18.1.base.length qd,.slice pe a18.1.log.length qe,.slice pf a18.1.mks.length qf⟩,a18.1)) hne.out hb4s.out hb6s.out rA7.out rB7.out nA.out nB.out (hg12.out.trans rfl) hO12.out (fun B w0 h hB => hB12.out B w0 h hB) (hg13.out.trans rfl) hO13.out (fun B w0 h hB => hB13.out B w0 h hB) hrel2.out (hIa.out) (hIb.out))
           have hN1:N + 1 = 30 + ((j:Int) + 1 + 1).toNat:=by have:=hN.out;omega
           rw [hN1] at TN;exact ⟨⟨(j:Int) + 1,(⟨.slice pa a17.1.base.length qa,.slice pb a17.1.log.length qb,.slice pc a17.1.mks.length qc⟩,a17.1),(⟨.slice pd a18.1.base.length qd,.slice pe a18.1.log.length qe,.slice pf a18.1.mks.length qf⟩,a18.1),rfl,by omega,by omega,TN⟩,by show ((ms.length:Int) + 1 - ((j:Int) + 1 + 1)).toNat < ((ms.length:Int) + 1 - ((j:Int) + 1)).toNat;omega⟩
     ·obtain rfl:z = (ms.length:Nat):=by omega
      have hBd:=(Below.refl wr.heap.size wr).drew
      have cS:∀ W,Below wr.heap.size wr W → (W.cell? ⟨B8,0,none⟩ = some (.slice ab r.base.length kb) ∧ W.cell? ⟨B8,1,none⟩ = some (.int .i64 r.fl.c) ∧ W.cell? ⟨B8,2,none⟩ = some (.int .i64 r.fl.r) ∧ W.cell? ⟨B8,3,none⟩ = some (.slice al r.log.length kl) ∧ W.cell? ⟨B8,4,none⟩ = some (.slice am r.mks.length km) ∧ W.cell? ⟨B10,0,none⟩ = some (.slice ab' q.base.length kb') ∧ W.cell? ⟨B10,1,none⟩ = some (.int .i64 q.fl.c) ∧ W.cell? ⟨B10,2,none⟩ = some (.int .i64 q.fl.r) ∧ W.cell? ⟨B10,3,none⟩ = some (.slice al' q.log.length kl') ∧ W.cell? ⟨B10,4,none⟩ = some (.slice am' q.mks.length km') ∧ Below wr.heap.size wr W):=fun W h => (fun a b => ⟨cell_at a 0,cell_at a 1,cell_at a 2,cell_at a 3,cell_at a 4,cell_at b 0,cell_at b 1,cell_at b 2,cell_at b 3,cell_at b 4,h⟩) (below_at h T.out.h8 (lt_of_block T.out.h8)) (below_at h T.out.h10 (lt_of_block T.out.h10))
      replace cS:=hid cS
      have HT10:=hid (by have h:=Fo.tree_any _ _ (.slice am' q.mks.length km') q.fl q.base q.log wr.drew (RepW.below T.out.ry hBd).b (RepW.below T.out.ry hBd).l (by have:=T.out.iy.len;simp only at this;omega) (by have:=T.out.iy.len;simp only at this;omega) (WfR.okT (T.out.iy.wf (by omega))) (WfR.inR (T.out.iy.wf (by omega)));unfold repV at h;rw [show foldM q.base q.log = treeR r from T.out.rel.tree] at h;exact h:Calls Tryz.prog 16 #[.agg #[.slice ab' q.base.length kb',.int .i64 q.fl.c,.int .i64 q.fl.r,.slice al' q.log.length kl',.slice am' q.mks.length km']] wr.drew fun e w' => (∃ v',e = .returned v' ∧ Mem.Rows w' v' (treeR r)) ∧ Below wr.drew.heap.size wr.drew w')
      have HT8:=hid (fun W (h:Below wr.heap.size wr W) => (by have h:=Fo.tree_any _ _ (.slice am r.mks.length km) r.fl r.base r.log W (RepW.below T.out.rx h).b (RepW.below T.out.rx h).l (by have:=T.out.ix.len;simp only at this;omega) (by have:=T.out.ix.len;simp only at this;omega) (WfR.okT (T.out.ix.wf (by omega))) (WfR.inR (T.out.ix.wf (by omega)));unfold repV at h;exact h:Calls Tryz.prog 16 #[.agg #[.slice ab r.base.length kb,.int .i64 r.fl.c,.int .i64 r.fl.r,.slice al r.log.length kl,.slice am r.mks.length km]] W fun e w' => (∃ v',e = .returned v' ∧ Mem.Rows w' v' (treeR r)) ∧ Below W.heap.size W w'))
      have HSm:=hid (fun W (v1 v2:Value) (h1:Mem.Rows W v1 (treeR r)) (h2:Mem.Rows W v2 (treeR r)) => (by have h:=sameR_any v1 v2 (treeR r) (treeR r) W h1 h2 (rk_fold _ T.out.ix.tree T.out.ix.lone T.out.ix.rk.1 T.out.ix.rk.2) (rk_fold _ T.out.ix.tree T.out.ix.lone T.out.ix.rk.1 T.out.ix.rk.2) (by have:=len_fold r.base r.log;have:=T.out.ix.len;unfold treeR;simp only at this;omega);rw [decide_eq_true rfl] at h;exact h:Calls Tryz.prog 15 #[v1,v2] W fun e w' => e = .returned (.bool true) ∧ Below W.heap.size W w'))
      go_upto_region 27 with fail
      go_region_held3 (fun W:World => W.cell? ⟨B8,0,none⟩ = some (.slice ab r.base.length kb) ∧ W.cell? ⟨B8,1,none⟩ = some (.int .i64 r.fl.c) ∧ W.cell? ⟨B8,2,none⟩ = some (.int .i64 r.fl.r) ∧ W.cell? ⟨B8,3,none⟩ = some (.slice al r.log.length kl) ∧ W.cell? ⟨B8,4,none⟩ = some (.slice am r.mks.length km) ∧ W.cell? ⟨B10,0,none⟩ = some (.slice ab' q.base.length kb') ∧ W.cell? ⟨B10,1,none⟩ = some (.int .i64 q.fl.c) ∧ W.cell? ⟨B10,2,none⟩ = some (.int .i64 q.fl.r) ∧ W.cell? ⟨B10,3,none⟩ = some (.slice al' q.log.length kl') ∧ W.cell? ⟨B10,4,none⟩ = some (.slice am' q.mks.length km') ∧ Below wr.heap.size wr W)
       (first | with_reducible assumption | with_reducible exact cS.out _ hBd | with_reducible exact cS.out _ hba.out | with_reducible exact cS.out _ hbb.out | with_reducible exact cS.out _ hbc.out | with_reducible exact cS.out _ hbe.out)
       (first
        | (go_at_call 16;(with_reducible refine HT10.out.mono ?_);rintro e wa ⟨⟨vt,rfl,ht⟩,ba⟩;obtain ⟨at1,kt1,et⟩:=ht.len;subst et;have hba:=hid (hBd.trans (ba.mono hBd.size));replace ht:=hid ht;clear ba)
        | (go_at_call 16;(with_reducible refine (HT8.out _ hba.out).mono ?_);rintro e wb ⟨⟨vt2,rfl,ht2⟩,bb⟩;have ht1:=Sl.below ht.out bb;obtain ⟨at2,kt2,et⟩:=ht2.len;subst et;have hbb:=hid (hba.out.trans (bb.mono hba.out.size));have HS2:=hid (HSm.out _ _ _ ht1 ht2);clear bb ht1 ht2)
        | (go_at_call 15;(with_reducible refine HS2.out.mono ?_);rintro e wd ⟨rfl,bd⟩;have hbc:=hid (hbb.out.trans (bd.mono hbb.out.size));clear bd)
        | (go_at_call 10;(with_reducible refine (HWK.out _).mono ?_);rintro e we ⟨rfl,be⟩;have hbe:=hid (hbc.out.trans (be.mono hbc.out.size));clear be))
      all_goals
       have hfin:=hid (T.out.be.trans (hbe.out.mono T.out.be.size));clear HT10 HT8 HSm HS2 hba hbb hbc hbe cS hBd T ht;go_wp2_with fail;go_ret;exact ⟨rfl,hfin.out⟩
   ·have t1:(c == 0) = false:=by rw [beq_eq_false_iff_ne];exact hc
    have hqr:=herr.out hc
    have HSP:=hid (by have h:=sameP_any (⟨.slice ab' q.base.length kb',.slice al' q.log.length kl',.slice am' q.mks.length km'⟩,q) (⟨.slice ab r.base.length kb,.slice al r.log.length kl,.slice am r.mks.length km⟩,r) W7 hY7.out hX7.out (hIq.out.wf (by omega)) (hI.out.wf (by omega)) hIq.out.rk hI.out.rk;rw [show sameP q r = true from by rw [hqr];exact sameP_self r] at h;exact h:Calls Tryz.prog 14 #[.agg #[.slice ab' q.base.length kb',.int .i64 q.fl.c,.int .i64 q.fl.r,.slice al' q.log.length kl',.slice am' q.mks.length km'],.agg #[.slice ab r.base.length kb,.int .i64 r.fl.c,.int .i64 r.fl.r,.slice al r.log.length kl,.slice am r.mks.length km]] W7 fun e w' => e = .returned (.bool true) ∧ Below W7.heap.size W7 w')
    have h107:=g7.out;have h87:=g87.out;have y0:W7.cell? ⟨w6.heap.size,0,none⟩ = some (.slice ab' q.base.length kb'):=cell_at h107 0;have y1:W7.cell? ⟨w6.heap.size,1,none⟩ = some (.int .i64 q.fl.c):=cell_at h107 1;have y2:W7.cell? ⟨w6.heap.size,2,none⟩ = some (.int .i64 q.fl.r):=cell_at h107 2;have y3:W7.cell? ⟨w6.heap.size,3,none⟩ = some (.slice al' q.log.length kl'):=cell_at h107 3;have y4:W7.cell? ⟨w6.heap.size,4,none⟩ = some (.slice am' q.mks.length km'):=cell_at h107 4
    have x0:W7.cell? ⟨w4.heap.size,0,none⟩ = some (.slice ab r.base.length kb):=cell_at h87 0;have x1:W7.cell? ⟨w4.heap.size,1,none⟩ = some (.int .i64 r.fl.c):=cell_at h87 1;have x2:W7.cell? ⟨w4.heap.size,2,none⟩ = some (.int .i64 r.fl.r):=cell_at h87 2;have x3:W7.cell? ⟨w4.heap.size,3,none⟩ = some (.slice al r.log.length kl):=cell_at h87 3;have x4:W7.cell? ⟨w4.heap.size,4,none⟩ = some (.slice am r.mks.length km):=cell_at h87 4;rw [← hW7] at y0 y1 y2 y3 y4 x0 x1 x2 x3 x4;replace hW7:=hid hW7;replace hqr:=hid hqr
    clear h107 h87 hX7 hY7 hnX hnY hX5 hb5 hI hIq hrel herr g5 g7 g87 hqq;go_wp2_with fail;rw [hW7.out];refine HSP.out.mono ?_
    rintro e w8 ⟨rfl,b8⟩;have hb8:=hid (hb7.out.trans (b8.mono hb7.out.size));clear y0 y1 y2 y3 y4 x0 x1 x2 x3 x4 b8;go_wp2_with fail;refine (HWK.out _).mono ?_
    rintro e w9 ⟨rfl,b9⟩;have hb9:=hid (hb8.out.trans (b9.mono hb8.out.size));clear b9;go_wp2_with fail;go_ret;exact ⟨rfl,hb9.out⟩
  ·rw [show few_anyD ms 10 = false by simpa using hfw] at HFW
   replace b0:=hid b0;clear hS hsh hfw hr hl hM hml hmr;go_enter Tryz.func3,Tryz.ntmps3;go_wp2_with fail;rw [hW0.out];refine HSH.out.mono ?_
   rintro e w1 ⟨rfl,b1⟩;have hb1:=b0.out.trans (b1.mono b0.out.size);have HF1:=hid (HFW.out w1 hb1);replace hb1:=hid hb1;clear b1;go_wp2_with fail;refine HF1.out.mono ?_
   rintro e w2 ⟨rfl,b2⟩;have hb2:=hid (hb1.out.trans (b2.mono hb1.out.size));clear b2;go_wp2_with fail;refine (HWK.out _).mono ?_
   rintro e w9 ⟨rfl,b9⟩;have hb9:=hid (hb2.out.trans (b9.mono hb2.out.size));clear b9;go_wp2_with fail;go_ret;exact ⟨rfl,hb9.out⟩
 ·rw [show short_anyD l 30 = false by simpa using hsh] at HSH
  replace b0:=hid b0;clear hS hsh hr hl hM hml hmr;go_enter Tryz.func3,Tryz.ntmps3;go_wp2_with fail;rw [hW0.out];refine HSH.out.mono ?_
  rintro e w1 ⟨rfl,b1⟩;have hb1:=hid (b0.out.trans (b1.mono b0.out.size));clear b1;go_wp2_with fail;refine (HWK.out _).mono ?_
  rintro e w9 ⟨rfl,b9⟩;have hb9:=hid (hb1.out.trans (b9.mono hb1.out.size));clear b9;go_wp2_with fail;go_ret;exact ⟨rfl,hb9.out⟩
open Go.ChangeShapes Go.WideShapes Go.ChangeAt in
theorem settles_ok {H:Type} {enc:TypeId × Value → H} {d0 d2:DataW H} {p0 p2:List MemPlace} (W:World) (b:Nat) (v0 v1 v2:Value) (o0:Value.okWide Tryz.prog W .any b 22 v0) (h0:DataW.Trod enc Tryz.prog W 0 (fun _ => true) true 22 v0 d0 p0) (o1:Value.okWide Tryz.prog W .any b 24 v1) (o2:Value.okWide Tryz.prog W .any b 25 v2) (h2:DataW.Trod enc Tryz.prog W 0 (fun _ => true) true 25 v2 d2 p2) :
  Calls Tryz.prog 3 #[v0,v1,v2] W fun e w' => e = .returned (.bool true) ∧ Below W.heap.size W w':=by
 obtain ⟨l,hS,hr,hl⟩:=dds_of o0 h0;obtain ⟨ms,hM,hmr,hml⟩:=mvs_of o2 h2;obtain ⟨cs,rfl,hcs,hty⟩:=Opened.ok_cells [3,3] 2 (by kernel_rfl) (by kernel_rfl) (by kernel_rfl) o1;obtain ⟨x,y,rfl⟩:=Opened.arr2 hcs;obtain ⟨u0,e0,k0⟩:=hty 0 x rfl;obtain ⟨u1,e1,k1⟩:=hty 1 y rfl
 cases e0
 cases e1
 obtain ⟨c,rfl,-,-⟩:=Opened.cell_int Tryz.underlying3 k0;obtain ⟨d,rfl,-,-⟩:=Opened.cell_int Tryz.underlying3 k1;exact settles_walk v0 v2 l ⟨c,d⟩ ms W hS hr hl hM hmr hml
end Tw
end
end Go.Proofs.YtnlijlknjhkoaaaGreat
