/-
  PART 1 of what law TopMarks leans on: plain lemmas and walks, of which each says its own condition.
-/
import Derived.Test.YtnlijlknjhkoaaaGreatP5
import Derived.Test.YtnlijlknjhkoaaaGreatRows
import Derived.WalkKit
import Derived.WalkSpells
import Derived.WalkLawsBesides
import Derived.Lib.Hide
import Derived.KernelRfl
import Derived.OneCell
import Derived.Laws.BytesArg
import Derived.Laws.IdiomStrings
import Derived.RangeFuncBox
import Derived.RangeFuncLeaves
import Derived.Laws.AppendOwnNone
import Derived.RegionTactic
import Derived.Laws.OwnMore
import Derived.Laws.CopyOwn
import Derived.ProofKit
import Derived.OpenShut
import Derived.Below
import Derived.Shelf.Small.Wraps
import Derived.Shelf.Strings.BuilderK
import Derived.Shelf.Slices.Turned
import Derived.Shelf.Bits.Mul64
import Derived.Test.YtnlijlknjhkoaaaGreatChecked
import Derived.OwnWalk
import Derived.Deep.RegionHeld3
import Derived.Outline
import Derived.Lib.Overlaps
import Derived.Lib.AppendZerosOnto
import Derived.Laws.Externs
import Derived.Laws.NewBlocks
import Derived.Deep.MidRow
import Derived.Laws.EntriesVeiled
import Derived.WalkMore
import Ieee.Arith
import GoSem.Core.Float
import Derived.Deep.WholeRow
import Derived.Deep.Cut
import Derived.Maps.OwnSet
import Derived.Maps.OwnOps
import Derived.Maps.OwnIn
import Derived.Shelf.Abstract
import Derived.OwnWalkIn
import Derived.TacticsInMore
import Derived.LoopNIn
import Derived.LoopIn
import Derived.RangeFuncCalls
import Derived.RangeFuncRecord
import Derived.Deep.QuietTactic
import Derived.BigQuiet
import Derived.Maps.RangeWalk
import Derived.Laws.ResultCell
import Derived.Deep.DeepCutAuto
import Derived.Defers
import Derived.Recover
import Derived.Lib.Strings
import Derived.Lib.Builder
import Derived.RangeFuncOwn
import Derived.Lib.AppendStr
import Derived.Deep.SlicePairs
import Derived.Laws.BitsAllLaws
import Derived.IntWalk
import Derived.Deep.Slices
import Derived.Deep.AppendLies
import Derived.Deep.RegionLaw
import Derived.Lib.AppendZeros
import Derived.ShutString
import Derived.ChangeOld
open Go.Lib (hid)
set_option maxRecDepth 100000
set_option maxHeartbeats 16000000
namespace Go.Proofs.YtnlijlknjhkoaaaGreat
section
namespace Opened
variable {P:Program} {W:World} {r:Reach} {b:Nat} {t:TypeId} {v:Value}
theorem ok_int {k:IntKind} (ht:P.underlying t = some (.int k)) (h:Value.okWide P W r b t v):∃ n,v = .int k n ∧ k.min ≤ n ∧ n ≤ k.max:=
 cell_int ht (by simpa only [Value.okWide,ht] using h)
end Opened
end
section
namespace Iv
open Tp Tr Mo Fo
theorem raise_same {v:List Mk} (h:MksP v) {t:Tm} (ht:okT t) (hle:t.c ≤ getM v t.r):raiseM v t = v:=
 mks_ext (mksP_raise h ht) h (fun r => by
  rw [get_raise v ht.1]
  by_cases q:r = t.r
  ·rw [if_pos q,q];omega
  ·rw [if_neg q])
end Iv
end
section
open Go.RowKit Go.Shelf
attribute [local go_sem] Fl.run_store_float
namespace Pl
open Mem Tp Tr Mo Fo Sn Og St
theorem pool_any {base p b:Nat} {vp:Value} {xs:List X3} {pool:List Mv} (w:World) (hP:PW w base p b vp xs pool) (hpl:pool.length ≤ 5000) :
  Calls Tryz.prog 24 #[.pointer (some ⟨p,0,none⟩)] w fun e w' => ∃ v',e = .returned v' ∧ w'.ownsRow w.heap.size 49 6 v' pool.length (pool.flatMap movC) ∧ Below w.heap.size w w':=by
 have HC:=hid (cloneMov_any vp pool.length (pool.flatMap movC) w (own_sl hP.own) (flat_length movC_len pool) hpl (flat_ones movC_one pool));have d0:=(show w.cell? ⟨p,1,none⟩ = some vp from cell_at hP.hp 1);obtain ⟨ap,kp,ep⟩:=(own_sl hP.own).len;subst ep;clear hP;go_enter Tryz.func24,Tryz.ntmps24;go_wp2_with fail;refine HC.out.mono ?_
 rintro e w1 ⟨v',rfl,h1,h2⟩;replace h1:=hid h1;replace h2:=hid h2;go_wp2_with fail;go_ret;exact ⟨v',rfl,h1.out,h2.out⟩
end Pl
end
section
open Go.RowKit Go.Shelf
namespace Iv
open Mem Tp Tr Mo Fo Sn Og St Pl
structure Tk (r:Rp) (l:List Mv):Prop where
 km:r.mks = ofM l
 st:∀ m ∈ l,hasT r.log m.t = bef r.fl m.t
theorem tk_nil:Tk r0 []:=⟨rfl,fun _ h => by simp at h⟩
theorem ofM_snoc (l:List Mv) (m:Mv):ofM (l ++ [m]) = raiseM (ofM l) m.t:=by unfold ofM;rw [List.foldl_append];rfl
theorem hasT_insM (l:List Mv) (m:Mv) (t:Tm):hasT (insM l m) t = (hasT l t || (m.t == t)):=by
 unfold insM
 split
 ·rename_i h
  by_cases e:m.t = t
  ·subst e;rw [h];rfl
  ·rw [beq_eq_false_iff_ne.2 e,Bool.or_false]
 ·rw [Bool.eq_iff_iff,Bool.or_eq_true,hasT_yes,hasT_yes,beq_iff_eq]
  have hm:∀ x,x ∈ insL l m ↔ x = m ∨ x ∈ l:=fun x => by
   unfold insL;rw [List.mem_append,List.mem_cons]
   constructor
   ·rintro (h | h | h)
    ·exact .inr (List.mem_of_mem_take h)
    ·exact .inl h
    ·exact .inr (List.mem_of_mem_drop h)
   ·rintro (h | h)
    ·exact .inr (.inl h)
    ·rw [← List.take_append_drop (l.findIdx (fun x => bef m.t x.t)) l,List.mem_append] at h
     exact h.imp id .inr
  constructor
  ·rintro ⟨x,hx,e⟩
   rcases (hm x).1 hx with rfl | hx
   ·exact .inr e
   ·exact .inl ⟨x,hx,e⟩
  ·rintro (⟨x,hx,e⟩ | e)
   ·exact ⟨x,(hm x).2 (.inr hx),e⟩
   ·exact ⟨m,(hm m).2 (.inl rfl),e⟩
theorem hasT_since (l:List Mv) (f t:Tm):hasT (since l f) t = (hasT l t && bef f t):=by
 rw [Bool.eq_iff_iff,Bool.and_eq_true,hasT_yes,hasT_yes]
 constructor
 ·rintro ⟨x,hx,rfl⟩
  have:=mem_since hx;exact ⟨⟨x,this.1,rfl⟩,this.2⟩
 ·rintro ⟨⟨x,hx,rfl⟩,h⟩
  exact ⟨x,List.mem_filter.2 ⟨hx,h⟩,rfl⟩
theorem hasT_t (l:List Mv) (t:Tm):hasT l t = (l.map (fun m => m.t)).any (fun x => x == t):=by unfold hasT;rw [List.any_map];rfl
theorem tk_add {j:Nat} {r:Rp} {l:List Mv} {m:Mv} (hI:InvR j r) (h:Tk r l) (hc:(addR r m).2.2 = 0):Tk (addR r m).1 (l ++ [m]):=by
 obtain ⟨h1,h2⟩:=addR_one hc;have ht:=(oneM_in h1).1
 by_cases h3:hasT r.log m.t = true
 ·rw [addR_old h1 h2 h3]
  refine ⟨?_,fun x hx => ?_⟩
  ·show r.mks = _
   rw [ofM_snoc,← h.km];obtain ⟨y,hy,e⟩:=hasT_yes.1 h3;exact (raise_same hI.mks ht (by rw [← e];exact hI.bel y hy)).symm
  ·show hasT r.log _ = bef r.fl _
   rcases List.mem_append.1 hx with hx | hx
   ·exact h.st x hx
   ·rw [List.mem_singleton.1 hx,h3,h2]
 ·rw [addR_yes h1 h2 (by simpa using h3)]
  refine ⟨?_,fun x hx => ?_⟩
  ·show raiseM r.mks m.t = _
   rw [ofM_snoc,← h.km]
  ·show hasT (insM r.log m) _ = bef r.fl _
   rw [hasT_insM]
   rcases List.mem_append.1 hx with hx | hx
   ·by_cases e:m.t = x.t
    ·rw [← e,h2,beq_self_eq_true,Bool.or_true]
    ·rw [beq_eq_false_iff_ne.2 e,Bool.or_false,h.st x hx]
   ·rw [List.mem_singleton.1 hx,h2,beq_self_eq_true,Bool.or_true]
theorem tk_prune {r:Rp} {l:List Mv} (h:Tk r l) (t:Tm):Tk (pruneR r t).1 l:=by
 by_cases hk:knownT r.mks t
 ·by_cases hb:bef r.fl t = true
  ·rw [pruneR_yes hk hb]
   refine ⟨h.km,fun m hm => ?_⟩
   show hasT (since r.log t) m.t = bef t m.t
   rw [hasT_since,h.st m hm]
   by_cases e:bef t m.t = true
   ·rw [e,bef_trans hb e];rfl
   ·rw [show bef t m.t = false from by simpa using e,Bool.and_false]
  ·rw [pruneR_old hk (by simpa using hb)]
   exact h
 ·rw [pruneR_no hk]
  exact h
theorem tk_eq {r r':Rp} {l:List Mv} (h:Tk r l) (e:EqP r r'):Tk r' l:=by
 refine ⟨e.m.trans h.km,fun m hm => ?_⟩
 rw [hasT_t,nrmM_t e.l.1,← hasT_t,e.f,h.st m hm]
def tookD (d:Dd) (pool:List Mv):Option Mv:=if d.kind = 1 then pool[pool.length - 1]? else if d.kind = 2 then pool[d.at_.toNat]? else none
theorem tk_deed {j:Nat} {r r':Rp} {l:List Mv} {d:Dd} {pool pool':List Mv} (hI:InvR j r) (h:Tk r l) (hs:StepR r d pool r' pool' 0) :
  Tk r' (l ++ (tookD d pool').toList) ∧ (d.kind = 1 → 0 < pool'.length) ∧ (d.kind = 2 → 0 ≤ d.at_ ∧ d.at_ < (pool'.length:Nat)):=by
 rcases hs with ⟨hk,h1⟩ | ⟨hk,rfl,h1⟩ | ⟨hk,rfl,h1⟩ | ⟨hk,rfl,h1,-⟩
 ·rcases localR_cases h1 with ⟨h0,-⟩ | ⟨t,-,rfl,hc,hp'⟩
  ·exact absurd h0 (by decide)
  ·rcases hp' with ⟨-,rfl⟩ | ⟨h0,-⟩
   ·refine ⟨?_,fun _ => by simp,fun q => absurd (hk.symm.trans q) (by decide)⟩
    unfold tookD;rw [if_pos hk,List.length_append,List.length_singleton,Nat.add_sub_cancel,List.getElem?_append_right (Nat.le_refl _),Nat.sub_self];exact tk_add hI h hc.symm
   ·exact absurd rfl h0
 ·rcases h1 with ⟨-,-,h0⟩ | ⟨k,m,hm,ha,rfl,hc⟩
  ·exact absurd h0 (by decide)
  ·have hkl:=(List.getElem?_eq_some_iff.1 hm).1
   refine ⟨?_,fun q => absurd (hk.symm.trans q) (by decide),fun _ => by omega⟩
   unfold tookD;rw [if_neg (by omega),if_pos hk,ha,Int.toNat_natCast,hm];exact tk_add hI h hc.symm
 ·refine ⟨?_,fun q => absurd (hk.symm.trans q) (by decide),fun q => absurd (hk.symm.trans q) (by decide)⟩
  unfold tookD;rw [if_neg (by omega),if_neg (by omega),show r' = (pruneR r ⟨d.at_,d.frm⟩).1 from congrArg Prod.fst h1]
  simpa using tk_prune h _
 ·refine ⟨?_,fun q => absurd (hk.symm.trans q) (by decide),fun q => absurd (hk.symm.trans q) (by decide)⟩
  unfold tookD;rw [if_neg (by omega),if_neg (by omega)]
  simpa using tk_eq h h1
def TkS (rs:List Rp) (tk:List (List Mv)):Prop:=tk.length = rs.length + 1 ∧ ∀ (k:Nat) r,rs[k]? = some r → ∃ l,tk[k + 1]? = some l ∧ Tk r l
theorem tkS_start (n:Nat):TkS (List.replicate n r0) (List.replicate (n + 1) []):=by
 refine ⟨by simp,fun k r hr => ?_⟩
 have hk:=(List.getElem?_eq_some_iff.1 hr).1;rw [List.length_replicate] at hk;rw [List.getElem?_replicate_of_lt hk] at hr
 cases hr
 exact ⟨[],List.getElem?_replicate_of_lt (by omega),tk_nil⟩
theorem tkS_no {rs rs':List Rp} {pool pool':List Mv} {d:Dd} {c:Int} {tk:List (List Mv)} (h:TkS rs tk) (hs:StepS rs pool d rs' pool' c) (hc:c ≠ 0):TkS rs' tk:=by
 rcases hs with ⟨-,rfl,-⟩ | ⟨k,r,r',hr,-,-,rfl⟩
 ·exact h
 ·rw [if_neg hc];exact h
theorem tkS_yes {j:Nat} {rs rs':List Rp} {pool pool':List Mv} {d:Dd} {tk:List (List Mv)} (hI:InvS j rs pool) (h:TkS rs tk) (hs:StepS rs pool d rs' pool' 0) :
  ∃ (k:Nat) (l:List Mv),k < rs.length ∧ d.who = ((k + 1:Nat):Int) ∧ tk[k + 1]? = some l ∧ TkS rs' (tk.set (k + 1) (l ++ (tookD d pool').toList)) ∧ (d.kind = 1 → 0 < pool'.length) ∧ (d.kind = 2 → 0 ≤ d.at_ ∧ d.at_ < (pool'.length:Nat)):=by
 rcases hs with ⟨h0,-⟩ | ⟨k,r,r',hr,hw,hs,rfl⟩
 ·exact absurd h0 (by decide)
 ·obtain ⟨l,hl,ht⟩:=h.2 k r hr
  have hd:=tk_deed (hI.r r (List.mem_of_getElem? hr)) ht hs;have hk:=(List.getElem?_eq_some_iff.1 hr).1;refine ⟨k,l,hk,by omega,hl,⟨?_,fun i x hx => ?_⟩,hd.2.1,hd.2.2⟩
  ·rw [if_pos rfl,List.length_set,List.length_set,h.1]
  ·rw [if_pos rfl] at hx
   rw [List.getElem?_set] at hx ⊢;have hkl:=h.1
   by_cases e:k = i
   ·subst e
    rw [if_pos rfl,if_pos hk] at hx;rw [if_pos rfl,if_pos (by omega)]
    cases hx
    exact ⟨_,rfl,hd.1⟩
   ·rw [if_neg e] at hx
    rw [if_neg (by omega)];exact h.2 i x hx
end Iv
end
section
open Go.RowKit Go.Shelf
namespace Tw
open Mem Tp Tr Mo Fo Sn Og St Pl Iv
structure MW (W:World) (B p b:Nat) (vp:Value) (xs:List X3) (pool:List Mv) (T:Nat) (tvs:List Value) (tk:List (List Mv)):Prop where
 pw:PW W B p b vp xs pool
 t:W.heap[T]? = some (.cells tvs.toArray 25 (0,0))
 bt:B ≤ T
 len:tvs.length = tk.length
 own:∀ (i:Nat) (v:Value) (l:List Mv),tvs[i]? = some v → tk[i]? = some l → W.ownsRow B 49 6 v l.length (l.flatMap movC)
 ap:∀ (i j:Nat) (u v:Value),i ≠ j → tvs[i]? = some u → tvs[j]? = some v → Ap u v
 nt:∀ v ∈ tvs,v.ownBlock ≠ some T
 sep:∀ j,(j = T ∨ ∃ v ∈ tvs,v.ownBlock = some j) → ¬ PB p b vp xs j
theorem MW.lt {W:World} {B p b T:Nat} {vp:Value} {xs:List X3} {pool:List Mv} {tvs:List Value} {tk:List (List Mv)} (h:MW W B p b vp xs pool T tvs tk):∀ j,(j = T ∨ ∃ v ∈ tvs,v.ownBlock = some j) → B ≤ j ∧ j < W.heap.size:=by
 rintro j (rfl | ⟨v,hv,e⟩)
 ·exact ⟨h.bt,lt_of_block h.t⟩
 ·obtain ⟨i,hi⟩:=List.getElem?_of_mem hv
  have hl:=(List.getElem?_eq_some_iff.1 hi).1;rw [h.len] at hl;exact (h.own i v _ hi (List.getElem?_eq_getElem hl)).lt j e
theorem MW.below {W W':World} {B p b T:Nat} {vp:Value} {xs:List X3} {pool:List Mv} {tvs:List Value} {tk:List (List Mv)} (h:MW W B p b vp xs pool T tvs tk) (k:Below W.heap.size W W'):MW W' B p b vp xs pool T tvs tk:=
 ⟨h.pw.below k,below_at k h.t (lt_of_block h.t),h.bt,h.len,fun i v l h1 h2 => own_below (h.own i v l h1 h2) k,h.ap,h.nt,h.sep⟩
theorem MW.step {W W':World} {B p b T:Nat} {vp vp':Value} {xs xs':List X3} {pool pool':List Mv} {tvs:List Value} {tk:List (List Mv)} (h:MW W B p b vp xs pool T tvs tk) (hP:PW W' B p b vp' xs' pool') (hk:Kept (fun j => j = p ∨ j = b ∨ vp.ownBlock = some j) W W') (hn:∀ j,PB p b vp' xs' j → PB p b vp xs j ∨ W.heap.size ≤ j):MW W' B p b vp' xs' pool' T tvs tk:=by
 have hb:∀ j,(j = T ∨ ∃ v ∈ tvs,v.ownBlock = some j) → W'.heap[j]? = W.heap[j]?:=fun j hj => hk.block j (h.lt j hj).2 (fun q => h.sep j hj (q.elim .inl (fun q => q.elim (fun q => .inr (.inl q)) (fun q => .inr (.inr (.inl q))))))
 refine ⟨hP,(hb T (.inl rfl)).trans h.t,h.bt,h.len,fun i v l h1 h2 => own_other (h.own i v l h1 h2) (fun j e => hb j (.inr ⟨v,List.mem_of_getElem? h1,e⟩)),h.ap,h.nt,fun j hj q => ?_⟩
 rcases hn j q with q | q
 ·exact h.sep j hj q
 ·have:=(h.lt j hj).2;omega
theorem MW.app {W w5 W6:World} {B p b T i:Nat} {vp v v5:Value} {xs:List X3} {pool:List Mv} {tvs:List Value} {tk:List (List Mv)} {l:List Mv} {m:Mv} (h:MW W B p b vp xs pool T tvs tk) (hv:tvs[i]? = some v) (hl:tk[i]? = some l)
  (hO:w5.ownsRow B 49 6 v5 (l.length + 1) (l.flatMap movC ++ movC m)) (hg:W.grownBy w5 v.ownBlock) (hn:Near W v v5) (hT:W6.heap[T]? = some (.cells (tvs.set i v5).toArray 25 (0,0))) (ho:∀ k,k ≠ T → W6.heap[k]? = w5.heap[k]?) (hs:w5.heap.size ≤ W6.heap.size) :
  MW W6 B p b vp xs pool T (tvs.set i v5) (tk.set i (l ++ [m])):=by
 have hvm:=List.mem_of_getElem? hv;have hil:=(List.getElem?_eq_some_iff.1 hv).1;have hlt:=h.lt
 have hnT:v5.ownBlock ≠ some T:=fun e => by
  rcases hn T e with q | q
  ·exact h.nt v hvm q
  ·have:=(hlt T (.inl rfl)).2;omega
 have hkeep:∀ j,j < W.heap.size → j ≠ T → v.ownBlock ≠ some j → W6.heap[j]? = W.heap[j]?:=fun j h1 h2 h3 => (ho j h2).trans (hg.block j h1 (fun e => h3 e.symm))
 have hat:∀ j u,(tvs.set i v5)[j]? = some u → (j = i ∧ u = v5) ∨ (j ≠ i ∧ tvs[j]? = some u):=fun j u hu => by
  rw [List.getElem?_set] at hu
  by_cases e:i = j
  ·subst e
   rw [if_pos rfl,if_pos hil] at hu;exact .inl ⟨rfl,(Option.some.inj hu).symm⟩
  ·rw [if_neg e] at hu
   exact .inr ⟨fun q => e q.symm,hu⟩
 refine ⟨h.pw.same (Nat.le_trans hg.size hs) (fun k hk => hkeep k (h.pw.lt hk) (fun e => h.sep k (.inl e) hk) (fun e => h.sep k (.inr ⟨v,hvm,e⟩) hk)),hT,h.bt,by rw [List.length_set,List.length_set,h.len],fun j u k h1 h2 => ?_,fun j k u u' hjk h1 h2 => ?_,fun u hu => ?_,fun j hj q => ?_⟩
 ·rcases hat j u h1 with ⟨rfl,rfl⟩ | ⟨hne,h1⟩
  ·rw [List.getElem?_set,if_pos rfl,if_pos (by rw [← h.len];exact hil)] at h2
   cases h2
   rw [List.length_append,List.length_singleton,flat_snoc];exact own_other hO (fun j e => ho j (fun q => hnT (q ▸ e)))
  ·rw [List.getElem?_set,if_neg (fun e => hne e.symm)] at h2
   have hu:=h.own j u k h1 h2;exact own_other hu (fun j' e => hkeep j' (hu.lt j' e).2 (fun q => h.nt u (List.mem_of_getElem? h1) (q ▸ e)) (fun q => h.ap i j v u (fun e => hne e.symm) hv h1 j' q e))
 ·rcases hat j u h1 with ⟨rfl,rfl⟩ | ⟨hj,g1⟩
  ·rcases hat k u' h2 with ⟨rfl,rfl⟩ | ⟨hk,g2⟩
   ·exact absurd rfl hjk
   ·exact (Ap.near (h.ap k j u' v (Ne.symm hjk) g2 hv) hn (fun k' e => (hlt k' (.inr ⟨u',List.mem_of_getElem? g2,e⟩)).2)).symm
  ·rcases hat k u' h2 with ⟨rfl,rfl⟩ | ⟨hk,g2⟩
   ·exact Ap.near (h.ap j k u v hjk g1 hv) hn (fun k' e => (hlt k' (.inr ⟨u,List.mem_of_getElem? g1,e⟩)).2)
   ·exact h.ap j k u u' hjk g1 g2
 ·obtain ⟨j,hj⟩:=List.getElem?_of_mem hu
  rcases hat j u hj with ⟨-,rfl⟩ | ⟨-,hj⟩
  ·exact hnT
  ·exact h.nt u (List.mem_of_getElem? hj)
 ·rcases hj with rfl | ⟨u,hu,e⟩
  ·exact h.sep j (.inl rfl) q
  ·obtain ⟨k,hk⟩:=List.getElem?_of_mem hu
   rcases hat k u hk with ⟨-,rfl⟩ | ⟨-,hk⟩
   ·rcases hn j e with q2 | q2
    ·exact h.sep j (.inr ⟨v,hvm,q2⟩) q
    ·have:=h.pw.lt q;omega
   ·exact h.sep j (.inr ⟨u,List.mem_of_getElem? hk,e⟩) q
def nilT (n:Nat):Array Value:=(List.replicate n (Value.slice none 0 0)).toArray
theorem mw_new {w W:World} {B p b n:Nat} {xs:List X3} (hP:PW w B p b (.slice none 0 0) xs []) (hB:B ≤ w.heap.size) (hW:w.alloc (.cells (nilT n) 25) = W):MW W B p b (.slice none 0 0) xs [] w.heap.size (List.replicate n (.slice none 0 0)) (List.replicate n []):=by
 subst hW
 have hr:∀ v ∈ List.replicate n (Value.slice none 0 0),v = .slice none 0 0:=fun v hv => List.eq_of_mem_replicate hv
 refine ⟨hP.below ((Below.refl w.heap.size w).alloc (Nat.le_refl _) _),alloc_new w _,hB,by rw [List.length_replicate,List.length_replicate],fun i v l h1 h2 => ?_,fun i j u v _ h1 _ => ?_,fun v hv e => ?_,fun j hj q => ?_⟩
 ·rw [hr v (List.mem_of_getElem? h1),List.eq_of_mem_replicate (List.mem_of_getElem? h2)]
  exact World.ownsRow_nil _ _ _ _
 ·rw [hr u (List.mem_of_getElem? h1)]
  exact ap_nil' _
 ·rw [hr v hv] at e
  cases e
 ·rcases hj with rfl | ⟨v,hv,e⟩
  ·exact absurd (hP.lt q) (Nat.lt_irrefl _)
  ·rw [hr v hv] at e
   cases e
theorem infoTook:(Tryz.prog.info? 25).map (fun i => (i.zero,i.size,i.bytes)) = some (some (.slice none 0 0),1,24):=by kernel_rfl
theorem made_nil {N:Nat} (h1:1 ≤ N) (h9:N ≤ 9):madeCells #[.slice none 0 0] (N * 1) = (List.replicate N (Value.slice none 0 0)).toArray:=by
 rcases (show N = 1 ∨ N = 2 ∨ N = 3 ∨ N = 4 ∨ N = 5 ∨ N = 6 ∨ N = 7 ∨ N = 8 ∨ N = 9 by omega) with rfl | rfl | rfl | rfl | rfl | rfl | rfl | rfl | rfl <;> kernel_rfl
theorem run_make_took (N:Nat) (w:World) (h1:1 ≤ N) (h9:N ≤ 9):(Instr.makeSlice 60 (.int .i64 (N:Int)) (.int .i64 (N:Int))).run Tryz.prog w = .ok (.slice (some ⟨w.heap.size,0,none⟩) N N) (w.alloc (.cells (nilT N) 25)):=by
 obtain ⟨i,hi,hzz⟩:=Option.map_eq_some_iff.1 infoTook;simp only [Prod.mk.injEq] at hzz;obtain ⟨hz,hs,hb⟩:=hzz;have hr:=Go.run_make (P:=Tryz.prog) w 60 25 i _ (Tryz.underlying60) hi hz .i64 .i64 N N (by omega) (Int.le_refl _) (by rw [hb];omega) (by omega);simp only [Int.toNat_natCast,hs] at hr;unfold nilT;rw [hr,← made_nil h1 h9]
 rfl
end Tw
end
section
open Go.RowKit Go.Shelf
namespace Tw
open Mem Tp Tr Mo Fo Sn Og St Pl Iv Rf
theorem okD_of' {l:List Dd} {most:Nat} (h:short_anyD l most = true) (hm:most ≤ 45) (hr:∀ z ∈ l,z.rk < 2 * Fl.S):OkD l:=by
 have h:=of_decide_eq_true h;exact ⟨by omega,fun d hd => ⟨h.2 d hd,hr d hd⟩⟩
end Tw
end
section
open Go.RowKit Go.Shelf
attribute [local go_sem] Fl.run_store_float
namespace Tw
open Mem Tp Tr Mo Fo Sn Og St Pl Iv Rf
structure MR (w W:World) (n B p b:Nat) (vp:Value) (xs:List X3) (pool:List Mv) (T:Nat) (tvs:List Value) (tk:List (List Mv)) (l:List Dd) (k:Nat):Prop where
 m:MW W B p b vp xs pool T tvs tk
 bel:Below w.heap.size w W
 run:∃ cs,RunS n (l.take k) (xs.map (·.2)) pool cs
 ts:TkS (xs.map (·.2)) tk
 sh:∀ x ∈ tk,x.length ≤ k
theorem MR.below {w W W':World} {n B p b T k:Nat} {vp:Value} {xs:List X3} {pool:List Mv} {tvs:List Value} {tk:List (List Mv)} {l:List Dd} (h:MR w W n B p b vp xs pool T tvs tk l k) (q:Below W.heap.size W W'):MR w W' n B p b vp xs pool T tvs tk l k:=
 ⟨h.m.below q,h.bel.trans (q.mono h.bel.size),h.run,h.ts,h.sh⟩
theorem MR.no {w W:World} {n B p b T k:Nat} {vp:Value} {xs xs':List X3} {pool pool':List Mv} {tvs:List Value} {tk:List (List Mv)} {l:List Dd} {d:Dd} {c:Int} (hr:∃ cs,RunS n (l.take k) (xs.map (·.2)) pool cs) (ht:TkS (xs.map (·.2)) tk) (hs:∀ x ∈ tk,x.length ≤ k) (hd:l[k]? = some d) (hS:StepS (xs.map (·.2)) pool d (xs'.map (·.2)) pool' c) (hc:c ≠ 0)
  (hm:MW W B p b vp xs' pool' T tvs tk) (hb:Below w.heap.size w W):MR w W n B p b vp xs' pool' T tvs tk l (k + 1):=by
 obtain ⟨cs,hr⟩:=hr;exact ⟨hm,hb,⟨cs ++ [c],by rw [Pl.take_snoc hd];exact hr.snoc hS⟩,tkS_no ht hS hc,fun x hx => Nat.le_succ_of_le (hs x hx)⟩
theorem MR.yes {w W:World} {n B p b T k a:Nat} {vp:Value} {xs xs':List X3} {pool pool':List Mv} {tvs:List Value} {tk:List (List Mv)} {l:List Dd} {d:Dd} {ls ms:List Mv} (hr:∃ cs,RunS n (l.take k) (xs.map (·.2)) pool cs) (hs:∀ x ∈ tk,x.length ≤ k) (hd:l[k]? = some d) (hS:StepS (xs.map (·.2)) pool d (xs'.map (·.2)) pool' 0)
  (hl:tk[a]? = some ls) (hms:ms.length ≤ 1) (ht:TkS (xs'.map (·.2)) (tk.set a (ls ++ ms))) (hm:MW W B p b vp xs' pool' T tvs (tk.set a (ls ++ ms))) (hb:Below w.heap.size w W):MR w W n B p b vp xs' pool' T tvs (tk.set a (ls ++ ms)) l (k + 1):=by
 obtain ⟨cs,hr⟩:=hr;refine ⟨hm,hb,⟨cs ++ [0],by rw [Pl.take_snoc hd];exact hr.snoc hS⟩,ht,fun x hx => ?_⟩
 rcases List.mem_or_eq_of_mem_set hx with hx | rfl
 ·exact Nat.le_succ_of_le (hs x hx)
 ·have:=hs ls (List.mem_of_getElem? hl)
  rw [List.length_append];omega
theorem set_none {tk:List (List Mv)} {a:Nat} {ls:List Mv} (h:tk[a]? = some ls):tk.set a (ls ++ []) = tk:=by
 rw [List.append_nil];obtain ⟨h1,rfl⟩:=List.getElem?_eq_some_iff.1 h;exact List.set_getElem_self h1
theorem marks_main (n:Nat) (v:Value) (l:List Dd) (w:World) (hS:Mem.Dds w v l) (h1:short_anyD l 30 = true) (hr1:∀ z ∈ l,z.rk < 2 * Fl.S) (hl1:l.length ≤ maxLen) (hn:1 ≤ n) (h8:n ≤ 8) :
  Calls Tryz.prog 5 #[.int .i64 (n:Int),v] w fun e w' => e = .returned (.bool true) ∧ Below w.heap.size w w':=by
 have HSH:=hid (short_any v l 30 w hS (by omega) (by unfold maxLen at hl1;omega));rw [h1] at HSH;have hO:=okD_of' h1 (by omega) hr1;have HN:=hid (fun W => new_any n W hn h8);have HS:=hid hS;obtain ⟨sa,sc,rfl⟩:=hS.len;have hlen:=hO.1
 have t1:¬ (n:Int) < 1:=by omega
 have t2:¬ (8:Int) < (n:Int):=by omega
 obtain ⟨N,hN⟩:∃ N,N = n + 1:=⟨_,rfl⟩
 have hwN:IntKind.i64.wrap ((n:Int) + 1) = (N:Int):=by rw [IntKind.wrap_i64];omega
 have HMK:=fun W => run_make_took N W (by omega) (by omega)
 obtain ⟨i0,hi,hz0,hz1,hz2⟩:=info_parts infoMov;replace hO:=hid hO;replace hN:=hid hN;clear hS h1 hr1 hl1;go_enter Tryz.func5,Tryz.ntmps5;go_wp2_with fail;refine HSH.out.mono ?_
 rintro e w1 ⟨rfl,k1⟩;have HN1:=hid (HN.out w1);replace k1:=hid k1;clear HSH HN;go_wp2_with fail;refine HN1.out.mono ?_
 rintro e w2 ⟨p,b,rfl,hP,k2⟩;have K2:=k1.out.trans (k2.mono k1.out.size);obtain ⟨W3,hW3⟩:∃ W,w2.alloc (.cells (nilT N) 25) = W:=⟨_,rfl⟩;have hM:=mw_new hP k2.size hW3
 have K3:Below w.heap.size w W3:=by rw [← hW3];exact K2.alloc K2.size _
 have hBw:w.heap.size ≤ w1.heap.size:=k1.out.size
 have hR3:MR w W3 n w1.heap.size p b (.slice none 0 0) (List.replicate n x0) [] w2.heap.size (List.replicate N (.slice none 0 0)) (List.replicate N []) l 0:=
  ⟨hM,K3,⟨[],by rw [map_x0];exact RunS.nil⟩,by rw [map_x0,hN.out];exact tkS_start n,fun x hx => by rw [List.eq_of_mem_replicate hx];exact Nat.le_refl _⟩
 replace hR3:=hid hR3;replace hW3:=hid hW3;generalize hT:w2.heap.size = T at *;replace hT:=hid hT;generalize w1.heap.size = B at *;clear hP k2 K2 K3 hM HN1 k1;go_wp2_with fail;rw [hT.out,hW3.out];clear HMK
 go_loopw [7] (fun i wr => ∃ (k:Nat) (vp:Value) (xs:List X3) (pool:List Mv) (tvs:List Value) (tk:List (List Mv)),i = .int .i64 k ∧ k ≤ l.length ∧ Hid (MR w wr n B p b vp xs pool T tvs tk l k)) (fun i _ => l.length - (intOf i).toNat)
 case atStart => exact ⟨0,_,_,_,_,_,rfl,by omega,hR3⟩
 case round =>
  clear hR3 hW3 hT;obtain ⟨k,vp,xs,pool,tvs,tk,rfl,hk,hR⟩:=hrel
  by_cases hlt:k < l.length
  ·have hlt':(k:Int) < (l.length:Nat):=by omega
   obtain ⟨d,hd⟩:=some_at hlt;obtain ⟨bd,off,rfl⟩:=HS.out.addr (by omega);have hSr:=HS.out.below hR.out.bel;obtain ⟨q0,q1,q2,q3,q4,q5,q6,q7⟩:=dd_at hSr rfl hd;obtain ⟨cs0,hrun⟩:=hR.out.run;obtain ⟨hinv,-,hrl⟩:=hO.out.run hrun;rw [List.length_map] at hrl;have hxd:=hO.out.2 d (List.mem_of_getElem? hd);have hinv':Hid (InvS (k + 1) (xs.map (·.2)) pool):=hid (hinv.mono (by omega))
   have HST:=hid (step_any d wr hR.out.m.pw (fun y hy => hinv.okR (by omega) _ (List.mem_map_of_mem hy)) (by omega) (by have:=hinv.p;omega) (fun m hm => by have:=hinv.nm m hm;omega));obtain ⟨kind,who,frm,at_,pa,ch,nm,rk⟩:=d;simp only at q0 q1 q2 q3 q4 q5 q6 q7 hxd;unfold dedV at HST;simp only at HST;have hnv:=hR.out.m.pw.n1;replace hinv:=hid hinv;replace hrl:=hid hrl;replace hxd:=hid hxd;replace hd:=hid hd;clear hSr hrun hnv;go_wp2_with fail;refine HST.out.mono ?_
   rintro e w4 ⟨vp',xs',pool',c,rfl,hSt,hP2,hb2,hk2,hn2⟩;have hM4:=hR.out.m.step hP2 hk2 hn2;have k4:Below w.heap.size w w4:=hR.out.bel.trans (hb2.mono hBw)
   have hpl:pool'.length ≤ 5000:=by
    have h1:=(inv_step hinv.out hxd.out.2 hSt).p;omega
   have HPL:=hid (pool_any w4 hP2 hpl);replace hSt:=hid hSt;replace hM4:=hid hM4;replace k4:=hid k4;clear hP2 hb2 hk2 hn2 HST q0 q1 q2 q3 q4 q5 q6 q7;go_wp2_with fail;refine HPL.out.mono ?_
   rintro e w5 ⟨vc,rfl,hc5,k5⟩;have hM5:=hM4.out.below k5;have K5:=k4.out.trans (k5.mono k4.out.size);have hC5:Mem.Mvs w5 vc pool':=own_sl hc5;obtain ⟨ac,kc,ec⟩:=hC5.len;subst ec;obtain ⟨q0,q1,q2,q3,q4,q5,q6,q7⟩:=dd_at (HS.out.below K5) rfl hd.out;simp only at q0 q1 q2 q3 q4 q5 q6 q7;have hbd5:=Nat.lt_of_lt_of_le (sl_lt HS.out (by omega)) K5.size;have hvn:(w5.heap.size:Nat) = w5.heap.size:=rfl;replace hM5:=hid hM5;replace K5:=hid K5;replace hC5:=hid hC5;clear hM4 k4 hc5 k5 HPL q2 q4 q5 q6 q7 hvn
   by_cases hc0:c = 0
   ·subst hc0
    obtain ⟨a',ls,ha',hwho,hls,htk,hp1,hp2⟩:=tkS_yes hinv.out hR.out.ts hSt.out;rw [List.length_map] at ha';obtain ⟨a,ha⟩:∃ a,a = a' + 1:=⟨_,rfl⟩;rw [← ha] at hwho hls htk;simp only at hwho hp1 hp2;subst hwho;have hxn:xs.length = n:=hrl.out
    have ha1:¬ (a:Int) < 1:=by omega
    have ha2:¬ ((n:Nat):Int) < (a:Int):=by omega
    have ha3:(a:Int) < (N:Nat):=by have:=hN.out;omega
    have ha4:(0:Int) ≤ (a:Int):=by omega
    by_cases hk1:kind = 1
    ·subst hk1
     have hpos:=hp1 rfl;obtain ⟨j,hj⟩:∃ j,pool'.length = j + 1:=⟨pool'.length - 1,by omega⟩;obtain ⟨m,hm⟩:=some_at (l:=pool') (k:=j) (by omega)
     have e1:tookD ⟨1,(a:Int),frm,at_,pa,ch,nm,rk⟩ pool' = some m:=by
      unfold tookD;rw [if_pos rfl,hj,Nat.add_sub_cancel,hm]
     rw [e1] at htk
     have w1:IntKind.i64.wrap ((pool'.length:Int) - 1) = (j:Int):=by rw [IntKind.wrap_i64];omega
     have t3:((pool'.length:Int) == 0) = false:=by rw [beq_eq_false_iff_ne];omega
     have j1:(0:Int) ≤ (j:Int):=by omega
     have j2:(j:Int) < (pool'.length:Nat):=by omega
     replace hj:=hid hj;obtain ⟨u,hu⟩:=some_at (l:=tvs) (k:=a) (by have:=hM5.out.len;have:=(List.getElem?_eq_some_iff.1 hls).1;omega);have hown:=hM5.out.own a u ls hu hls;obtain ⟨au,ku,eu⟩:=(own_sl hown).len;subst eu
     have hlu:=fun j (e:(Value.slice au ls.length ku).ownBlock = some j) => hown.lt j e
     have hT5:=hM5.out.t;have hlT:=lt_of_block hT5;have x0:w5.cell? ⟨T,a,none⟩ = some (.slice au ls.length ku):=(cell_at hT5 a).trans (by simpa using hu);obtain ⟨bc,oc,rfl⟩:=hC5.out.addr (by have:=(List.getElem?_eq_some_iff.1 hm).1;omega);have hlc:=sl_lt hC5.out (by have:=(List.getElem?_eq_some_iff.1 hm).1;omega);obtain ⟨m0,m1,m2,m3,m4,m5⟩:=mov_at hC5.out rfl hm
     have hut:tvs.toArray[a]? = some (.slice au ls.length ku):=by simpa using hu
     have hnT:(Value.slice au ls.length ku).ownBlock ≠ some T:=hM5.out.nt _ (List.mem_of_getElem? hu);have hsh:=hR.out.sh ls (List.mem_of_getElem? hls);have hBT:=hM5.out.bt;have hB5:=K5.out.size
     have hBs:B ≤ w5.heap.size:=by omega
     have on6:∀ u ∈ [Value.int .i64 m.t.c,.int .i64 m.t.r,.int .i64 m.pa,.int .i64 m.ch,.string m.nm,.float .f64 m.rk],u.oneCell' = true:=movC_one m;have HSx:=hid (fun W (h:Below w.heap.size w W) => (dd_at (HS.out.below h) rfl hd.out).1);have HSy:=hid (fun W (h:Below w.heap.size w W) => (dd_at (HS.out.below h) rfl hd.out).2.1);simp only at HSx HSy;replace hown:=hid hown;replace hut:=hid hut;replace hlu:=hid hlu;replace hT5:=hid hT5;replace hnT:=hid hnT;replace on6:=hid on6;replace hu:=hid hu;replace hm:=hid hm;replace htk:=hid htk
     replace hls:=hid hls;replace hp1:=hid hp1;replace hp2:=hid hp2;replace ha:=hid ha;replace ha':=hid ha';replace hsh:=hid hsh;have hwl:w.heap.size ≤ B:=hBw
     have hkl:k + 1 ≤ 46:=by omega
     have hls1:ls.length + 1 ≤ 60:=by have:=hsh.out;omega
     clear e1;go_wp2_with fail;have HSS:=hid (fun W (h:Below w.heap.size w W) => HSy.out W h)
     have hwT:w.heap.size ≤ T:=by omega
     have K5d:=hid (K5.out.drew);have K5a:=hid ((K5.out.alloc hB5 (.cells #[.int .i64 m.t.c,.int .i64 m.t.r,.int .i64 m.pa,.int .i64 m.ch,.string m.nm,.float .f64 m.rk] 49)).drew);refine wp_region_held_drew (S:=fun W => W.cell? ⟨bd,off + k * 8 + 1,none⟩ = some (.int .i64 (a:Int))) (by kernel_rfl) ?_ (fun hHeld => ?_)
     ·exact HSS.out _ K5d.out
     refine wpAnyH_take (i:=0) (oi:=_) (v:=?_) rfl (by kernel_rfl) (by kernel_rfl) (by kernel_rfl) (fun _ _ _ h => h) (Or.inl ⟨by rfl,?_⟩) (by assumption) ?_
     rotate_left
     ·intro w hSw;(try dsimp only at hSw);go_simp;(try with_reducible rfl)
     (try simp only [Act.put]);(try simp only [List.setIfInBounds_toArray]);(try simp only [List.set_cons_succ]);(try simp only [List.set_cons_zero])
     refine wpAnyH_take (i:=1) (oi:=_) (v:=?_) rfl (by kernel_rfl) (by kernel_rfl) (by kernel_rfl) (fun _ _ _ h => h) (Or.inl ⟨by rfl,?_⟩) (by assumption) ?_
     rotate_left
     ·intro w hSw;(try dsimp only at hSw);go_simp;(try with_reducible rfl)
     (try simp only [Act.put]);(try simp only [List.setIfInBounds_toArray]);(try simp only [List.set_cons_succ]);(try simp only [List.set_cons_zero])
     refine wpAnyH_take (i:=2) (oi:=_) (v:=?_) rfl (by kernel_rfl) (by kernel_rfl) (by kernel_rfl) (fun _ _ _ h => h) (Or.inl ⟨by rfl,?_⟩) (by assumption) ?_
     rotate_left
     ·intro w hSw;(try dsimp only at hSw);go_simp;(try with_reducible rfl)
     (try simp only [Act.put]);(try simp only [List.setIfInBounds_toArray]);(try simp only [List.set_cons_succ]);(try simp only [List.set_cons_zero])
     refine wpAnyH_take (i:=3) (oi:=_) (v:=?_) rfl (by kernel_rfl) (by kernel_rfl) (by kernel_rfl) (fun _ _ _ h => h) (Or.inl ⟨by rfl,?_⟩) (by assumption) ?_
     rotate_left
     ·intro w hSw;(try dsimp only at hSw);go_simp;(try with_reducible rfl)
     (try simp only [Act.put]);(try simp only [List.setIfInBounds_toArray]);(try simp only [List.set_cons_succ]);(try simp only [List.set_cons_zero])
     refine wpAnyH_take (i:=4) (oi:=_) (v:=?_) rfl (by kernel_rfl) (by kernel_rfl) (by kernel_rfl) (fun _ _ _ h => h) (Or.inl ⟨by rfl,?_⟩) (by assumption) ?_
     rotate_left
     ·intro w hSw;(try dsimp only at hSw);go_simp;(try with_reducible rfl)
     (try simp only [Act.put]);(try simp only [List.setIfInBounds_toArray]);(try simp only [List.set_cons_succ]);(try simp only [List.set_cons_zero])
     refine wpAnyH_take (i:=5) (oi:=_) (v:=?_) rfl (by kernel_rfl) (by kernel_rfl) (by kernel_rfl) (fun _ _ _ h => h) (Or.inl ⟨by rfl,?_⟩) (by assumption) ?_
     rotate_left
     ·intro w hSw;(try dsimp only at hSw);go_simp;(try with_reducible rfl)
     (try simp only [Act.put]);(try simp only [List.setIfInBounds_toArray]);(try simp only [List.set_cons_succ]);(try simp only [List.set_cons_zero])
     refine wpAnyH_take (i:=6) (oi:=_) (v:=?_) rfl (by kernel_rfl) (by kernel_rfl) (by kernel_rfl) (fun _ _ _ h => h) (Or.inl ⟨by rfl,?_⟩) (by assumption) ?_
     rotate_left
     ·intro w hSw;(try dsimp only at hSw);go_simp;(try with_reducible rfl)
     (try simp only [Act.put]);(try simp only [List.setIfInBounds_toArray]);(try simp only [List.set_cons_succ]);(try simp only [List.set_cons_zero])
     refine wpAnyH_take (i:=7) (oi:=_) (v:=?_) rfl (by kernel_rfl) (by kernel_rfl) (by kernel_rfl) (fun _ _ _ h => h) (Or.inl ⟨by rfl,?_⟩) (by assumption) ?_
     rotate_left
     ·intro w hSw;(try dsimp only at hSw);go_simp;(try with_reducible rfl)
     (try simp only [Act.put]);(try simp only [List.setIfInBounds_toArray]);(try simp only [List.set_cons_succ]);(try simp only [List.set_cons_zero])
     refine wpAnyH_take (i:=8) (oi:=_) (v:=?_) rfl (by kernel_rfl) (by kernel_rfl) (by kernel_rfl) (fun _ _ _ h => h) (Or.inl ⟨by rfl,?_⟩) (by assumption) ?_
     rotate_left
     ·intro w hSw;(try dsimp only at hSw);go_simp;(try with_reducible rfl)
     (try simp only [Act.put]);(try simp only [List.setIfInBounds_toArray]);(try simp only [List.set_cons_succ]);(try simp only [List.set_cons_zero])
     refine wpAnyH_take (i:=9) (oi:=_) (v:=?_) rfl (by kernel_rfl) (by kernel_rfl) (by kernel_rfl) (fun _ _ _ h => h) (Or.inl ⟨by rfl,?_⟩) (by assumption) ?_
     rotate_left
     ·intro w hSw;(try dsimp only at hSw);go_simp;(try with_reducible rfl)
     (try simp only [Act.put]);(try simp only [List.setIfInBounds_toArray]);(try simp only [List.set_cons_succ]);(try simp only [List.set_cons_zero])
     refine wpAnyH_take (i:=10) (oi:=_) (v:=?_) rfl (by kernel_rfl) (by kernel_rfl) (by kernel_rfl) (fun _ _ _ h => h) (Or.inl ⟨by rfl,?_⟩) (by assumption) ?_
     rotate_left
     ·intro w hSw;(try dsimp only at hSw);go_simp;(try with_reducible rfl)
     (try simp only [Act.put]);(try simp only [List.setIfInBounds_toArray]);(try simp only [List.set_cons_succ]);(try simp only [List.set_cons_zero])
     refine wpAnyH_take (i:=11) (oi:=_) (v:=?_) rfl (by kernel_rfl) (by kernel_rfl) (by kernel_rfl) (fun _ _ _ h => h) (Or.inl ⟨by rfl,?_⟩) (by assumption) ?_
     rotate_left
     ·intro w hSw;(try dsimp only at hSw);go_simp;(try with_reducible rfl)
     (try simp only [Act.put]);(try simp only [List.setIfInBounds_toArray]);(try simp only [List.set_cons_succ]);(try simp only [List.set_cons_zero])
     refine wpAnyH_take (i:=12) (oi:=_) (v:=?_) rfl (by kernel_rfl) (by kernel_rfl) (by kernel_rfl) (fun _ _ _ h => h) (Or.inl ⟨by rfl,?_⟩) (by assumption) ?_
     rotate_left
     ·intro w hSw;(try dsimp only at hSw);go_simp;(try with_reducible rfl)
     (try simp only [Act.put]);(try simp only [List.setIfInBounds_toArray]);(try simp only [List.set_cons_succ]);(try simp only [List.set_cons_zero])
     refine wpAnyH_take (i:=14) (oi:=_) (v:=?_) rfl (by kernel_rfl) (by kernel_rfl) (by kernel_rfl) (fun _ _ _ h => h) (Or.inl ⟨by rfl,?_⟩) (by assumption) ?_
     rotate_left
     ·intro w hSw;(try dsimp only at hSw);go_simp;(try with_reducible rfl)
     (try simp only [Act.put]);(try simp only [List.setIfInBounds_toArray]);(try simp only [List.set_cons_succ]);(try simp only [List.set_cons_zero])
     refine wpAnyH_take (i:=15) (oi:=_) (v:=?_) rfl (by kernel_rfl) (by kernel_rfl) (by kernel_rfl) (fun _ _ _ h => h) (Or.inl ⟨by rfl,?_⟩) (by assumption) ?_
     rotate_left
     ·intro w hSw;(try dsimp only at hSw);go_simp;(try with_reducible rfl)
     (try simp only [Act.put]);(try simp only [List.setIfInBounds_toArray]);(try simp only [List.set_cons_succ]);(try simp only [List.set_cons_zero])
     refine wpAnyH_take (i:=16) (oi:=_) (v:=?_) rfl (by kernel_rfl) (by kernel_rfl) (by kernel_rfl) (fun _ _ _ h => h) (Or.inl ⟨by rfl,?_⟩) (by assumption) ?_
     rotate_left
     ·intro w hSw;(try dsimp only at hSw);go_simp;(try with_reducible rfl)
     (try simp only [Act.put]);(try simp only [List.setIfInBounds_toArray]);(try simp only [List.set_cons_succ]);(try simp only [List.set_cons_zero])
     refine wpAnyH_take (i:=17) (oi:=_) (v:=?_) rfl (by kernel_rfl) (by kernel_rfl) (by kernel_rfl) (fun _ _ _ h => h) (Or.inl ⟨by rfl,?_⟩) (by assumption) ?_
     rotate_left
     ·intro w hSw;(try dsimp only at hSw);go_simp;(try with_reducible rfl)
     (try simp only [Act.put]);(try simp only [List.setIfInBounds_toArray]);(try simp only [List.set_cons_succ]);(try simp only [List.set_cons_zero])
     refine wpAnyH_take (i:=18) (oi:=_) (v:=?_) rfl (by kernel_rfl) (by kernel_rfl) (by kernel_rfl) (fun _ _ _ h => h) (Or.inl ⟨by rfl,?_⟩) (by assumption) ?_
     rotate_left
     ·intro w hSw;(try dsimp only at hSw);go_simp;(try with_reducible rfl)
     (try simp only [Act.put]);(try simp only [List.setIfInBounds_toArray]);(try simp only [List.set_cons_succ]);(try simp only [List.set_cons_zero])
     refine wpAnyH_ready (rs:=[13,19]) (by kernel_rfl) (by simp) ?_
     refine AllReadyH.cons (o:=_) rfl (fun K hK => ?_) ?_
     ·go_simp
      refine hK.out _ _ ?_ (fun hHeld => ?_)
      ·assumption
      clear hK K
      (try simp only [Act.put]);(try simp only [List.setIfInBounds_toArray]);(try simp only [List.set_cons_succ]);(try simp only [List.set_cons_zero])
      refine wpAnyH_ready (rs:=[19]) (by kernel_rfl) (by simp) ?_
      refine AllReadyH.cons (o:=_) rfl (fun K hK => ?_) ?_
      ·go_simp
       refine hK.out _ _ ?_ (fun hHeld => ?_)
       ·assumption
       clear hK K
       (try simp only [Act.put]);(try simp only [List.setIfInBounds_toArray]);(try simp only [List.set_cons_succ]);(try simp only [List.set_cons_zero])
       refine wpAnyH_ready (rs:=[20]) (by kernel_rfl) (by simp) ?_
       refine AllReadyH.cons (o:=_) rfl (fun K hK => ?_) ?_
       ·go_simp
        refine hK.out _ _ ?_ (fun hHeld => ?_)
        ·exact HSS.out _ K5a.out
        clear hK K
        (try simp only [Act.put]);(try simp only [List.setIfInBounds_toArray]);(try simp only [List.set_cons_succ]);(try simp only [List.set_cons_zero])
        refine wpAnyH_ready (rs:=[21]) (by kernel_rfl) (by simp) ?_
        refine AllReadyH.cons (o:=_) rfl (fun K hK => ?_) ?_
        ·(refine step_append_near (by rfl) (.tmp 131) (.tmp 138) 25 (by rfl) B 49 i0 (.agg #[.int .i64 0,.int .i64 0,.int .i64 0,.int .i64 0,.string ByteArray.empty,.float .f64 0]) 6 56 Tryz.underlying25 hi hz0 hz1 hz2 rfl (by decide) _ ls.length (ls.flatMap movC) (by rfl) (World.ownsRow.alloc hown.out _) w5.heap.size 1 1 [Value.int .i64 m.t.c,.int .i64 m.t.r,.int .i64 m.pa,.int .i64 m.ch,.string m.nm,.float .f64 m.rk] (by rfl) rfl (alloc_new w5 _) on6.out (by unfold maxLen;omega) (by omega) (by simp;omega) ?_;intro v6 w6 hown6 hgrow hnear;obtain ⟨a6,k6,e6⟩:=(own_sl hown6.out).len;subst e6;have hT6:=fam_other hgrow.out (alloc_at _ hT5.out) hnT.out;have x1:w6.cell? ⟨T,a,none⟩ = some (.slice au ls.length ku):=(cell_at hT6 a).trans hut.out;have f1:w6.frozen? ⟨T,a,none⟩ = false:=free_at hT6 a;have K6:=hid (K5a.out.grown hgrow.out (by simp;omega) (fun j e => Nat.le_trans hwl (hlu.out j e).1));replace hT6:=hid hT6)
         refine hK.out _ _ ?_ (fun hHeld => ?_)
         ·exact HSS.out _ K6.out
         clear hK K
         (try simp only [Act.put]);(try simp only [List.setIfInBounds_toArray]);(try simp only [List.set_cons_succ]);(try simp only [List.set_cons_zero])
         refine wpAnyH_take (i:=22) (oi:=_) (v:=?_) rfl (by kernel_rfl) (by kernel_rfl) (by kernel_rfl) (fun _ _ _ h => h) (Or.inl ⟨by rfl,?_⟩) (by assumption) ?_
         rotate_left
         ·intro w hSw;(try dsimp only at hSw);go_simp;(try with_reducible rfl)
         (try simp only [Act.put]);(try simp only [List.setIfInBounds_toArray]);(try simp only [List.set_cons_succ]);(try simp only [List.set_cons_zero])
         refine wpAnyH_ready (rs:=[23]) (by kernel_rfl) (by simp) ?_
         refine AllReadyH.cons (o:=_) rfl (fun K hK => ?_) ?_
         ·go_simp
          refine hK.out _ _ ?_ (fun hHeld => ?_)
          ·exact HSS.out _ (K6.out.setCell (p:=⟨T,a,none⟩) hwT _)
          clear hK K
          (try simp only [Act.put]);(try simp only [List.setIfInBounds_toArray]);(try simp only [List.set_cons_succ]);(try simp only [List.set_cons_zero])
          refine wpAnyH_done (by kernel_rfl) ?_ _
          have hgr:=hgrow.out;obtain ⟨w7,hw7⟩:∃ w7,w6.setCell ⟨T,a,none⟩ (.slice a6 (ls.length + 1) k6) = w7:=⟨_,rfl⟩
          have hoth:∀ k,k ≠ T → w7.heap[k]? = w6.heap[k]?:=fun k hk => by rw [← hw7];exact setCell_heap_other hk
          have hs7:w7.heap.size = w6.heap.size:=by rw [← hw7];simp [World.setCell]
          have K7:Below w.heap.size w w7:=by rw [← hw7];exact K6.out.setCell (p:=⟨T,a,none⟩) hwT _
          have hT7:=set_at hT6.out a (.slice a6 (ls.length + 1) k6);simp only [List.setIfInBounds_toArray] at hT7;rw [hw7] at hT7 ⊢;have hM7:=(hM5.out.below ((Below.refl w5.heap.size w5).alloc (Nat.le_refl _) (.cells #[.int .i64 m.t.c,.int .i64 m.t.r,.int .i64 m.pa,.int .i64 m.ch,.string m.nm,.float .f64 m.rk] 49)).drew).app (m:=m) hu.out hls.out hown6.out hgr hnear.out hT7 hoth (by omega);have hY:=hid (MR.yes (ms:=[m]) hR.out.run hR.out.sh hd.out hSt.out hls.out (by simp) htk.out hM7 K7);have z0:=HSx.out w7 K7;have z1:=HSy.out w7 K7
          replace hM7:=hid hM7;replace hT7:=hid hT7;replace K7:=hid K7;replace hoth:=hid hoth;replace hw7:=hid hw7;clear hgr hown6 hgrow hnear x1 f1 x0 q0 q1 q3 m0 m1 m2 m3 m4 m5 hHeld;go_wp2_with fail
          go_roundw
          case rel => exact ⟨k + 1,vp',xs',pool',_,_,by go_num,by omega,hY⟩
          case measure => simp [intOf];omega
         exact AllReadyH.nil
        exact AllReadyH.nil
       exact AllReadyH.nil
      exact AllReadyH.nil
     refine AllReadyH.cons (o:=_) rfl (fun K hK => ?_) ?_
     ·go_simp
      refine hK.out _ _ ?_ (fun hHeld => ?_)
      ·assumption
      clear hK K
      (try simp only [Act.put]);(try simp only [List.setIfInBounds_toArray]);(try simp only [List.set_cons_succ]);(try simp only [List.set_cons_zero])
      refine wpAnyH_ready (rs:=[13,20]) (by kernel_rfl) (by simp) ?_
      refine AllReadyH.cons (o:=_) rfl (fun K hK => ?_) ?_
      ·go_simp
       refine hK.out _ _ ?_ (fun hHeld => ?_)
       ·assumption
       clear hK K
       (try simp only [Act.put]);(try simp only [List.setIfInBounds_toArray]);(try simp only [List.set_cons_succ]);(try simp only [List.set_cons_zero])
       refine wpAnyH_ready (rs:=[20]) (by kernel_rfl) (by simp) ?_
       refine AllReadyH.cons (o:=_) rfl (fun K hK => ?_) ?_
       ·go_simp
        refine hK.out _ _ ?_ (fun hHeld => ?_)
        ·exact HSS.out _ K5a.out
        clear hK K
        (try simp only [Act.put]);(try simp only [List.setIfInBounds_toArray]);(try simp only [List.set_cons_succ]);(try simp only [List.set_cons_zero])
        refine wpAnyH_ready (rs:=[21]) (by kernel_rfl) (by simp) ?_
        refine AllReadyH.cons (o:=_) rfl (fun K hK => ?_) ?_
        ·(refine step_append_near (by rfl) (.tmp 131) (.tmp 138) 25 (by rfl) B 49 i0 (.agg #[.int .i64 0,.int .i64 0,.int .i64 0,.int .i64 0,.string ByteArray.empty,.float .f64 0]) 6 56 Tryz.underlying25 hi hz0 hz1 hz2 rfl (by decide) _ ls.length (ls.flatMap movC) (by rfl) (World.ownsRow.alloc hown.out _) w5.heap.size 1 1 [Value.int .i64 m.t.c,.int .i64 m.t.r,.int .i64 m.pa,.int .i64 m.ch,.string m.nm,.float .f64 m.rk] (by rfl) rfl (alloc_new w5 _) on6.out (by unfold maxLen;omega) (by omega) (by simp;omega) ?_;intro v6 w6 hown6 hgrow hnear;obtain ⟨a6,k6,e6⟩:=(own_sl hown6.out).len;subst e6;have hT6:=fam_other hgrow.out (alloc_at _ hT5.out) hnT.out;have x1:w6.cell? ⟨T,a,none⟩ = some (.slice au ls.length ku):=(cell_at hT6 a).trans hut.out;have f1:w6.frozen? ⟨T,a,none⟩ = false:=free_at hT6 a;have K6:=hid (K5a.out.grown hgrow.out (by simp;omega) (fun j e => Nat.le_trans hwl (hlu.out j e).1));replace hT6:=hid hT6)
         refine hK.out _ _ ?_ (fun hHeld => ?_)
         ·exact HSS.out _ K6.out
         clear hK K
         (try simp only [Act.put]);(try simp only [List.setIfInBounds_toArray]);(try simp only [List.set_cons_succ]);(try simp only [List.set_cons_zero])
         refine wpAnyH_take (i:=22) (oi:=_) (v:=?_) rfl (by kernel_rfl) (by kernel_rfl) (by kernel_rfl) (fun _ _ _ h => h) (Or.inl ⟨by rfl,?_⟩) (by assumption) ?_
         rotate_left
         ·intro w hSw;(try dsimp only at hSw);go_simp;(try with_reducible rfl)
         (try simp only [Act.put]);(try simp only [List.setIfInBounds_toArray]);(try simp only [List.set_cons_succ]);(try simp only [List.set_cons_zero])
         refine wpAnyH_ready (rs:=[23]) (by kernel_rfl) (by simp) ?_
         refine AllReadyH.cons (o:=_) rfl (fun K hK => ?_) ?_
         ·go_simp
          refine hK.out _ _ ?_ (fun hHeld => ?_)
          ·exact HSS.out _ (K6.out.setCell (p:=⟨T,a,none⟩) hwT _)
          clear hK K
          (try simp only [Act.put]);(try simp only [List.setIfInBounds_toArray]);(try simp only [List.set_cons_succ]);(try simp only [List.set_cons_zero])
          refine wpAnyH_done (by kernel_rfl) ?_ _
          have hgr:=hgrow.out;obtain ⟨w7,hw7⟩:∃ w7,w6.setCell ⟨T,a,none⟩ (.slice a6 (ls.length + 1) k6) = w7:=⟨_,rfl⟩
          have hoth:∀ k,k ≠ T → w7.heap[k]? = w6.heap[k]?:=fun k hk => by rw [← hw7];exact setCell_heap_other hk
          have hs7:w7.heap.size = w6.heap.size:=by rw [← hw7];simp [World.setCell]
          have K7:Below w.heap.size w w7:=by rw [← hw7];exact K6.out.setCell (p:=⟨T,a,none⟩) hwT _
          have hT7:=set_at hT6.out a (.slice a6 (ls.length + 1) k6);simp only [List.setIfInBounds_toArray] at hT7;rw [hw7] at hT7 ⊢;have hM7:=(hM5.out.below ((Below.refl w5.heap.size w5).alloc (Nat.le_refl _) (.cells #[.int .i64 m.t.c,.int .i64 m.t.r,.int .i64 m.pa,.int .i64 m.ch,.string m.nm,.float .f64 m.rk] 49)).drew).app (m:=m) hu.out hls.out hown6.out hgr hnear.out hT7 hoth (by omega);have hY:=hid (MR.yes (ms:=[m]) hR.out.run hR.out.sh hd.out hSt.out hls.out (by simp) htk.out hM7 K7);have z0:=HSx.out w7 K7;have z1:=HSy.out w7 K7
          replace hM7:=hid hM7;replace hT7:=hid hT7;replace K7:=hid K7;replace hoth:=hid hoth;replace hw7:=hid hw7;clear hgr hown6 hgrow hnear x1 f1 x0 q0 q1 q3 m0 m1 m2 m3 m4 m5 hHeld;go_wp2_with fail
          go_roundw
          case rel => exact ⟨k + 1,vp',xs',pool',_,_,by go_num,by omega,hY⟩
          case measure => simp [intOf];omega
         exact AllReadyH.nil
        exact AllReadyH.nil
       exact AllReadyH.nil
      refine AllReadyH.cons (o:=_) rfl (fun K hK => ?_) ?_
      ·go_simp
       refine hK.out _ _ ?_ (fun hHeld => ?_)
       ·exact HSS.out _ K5a.out
       clear hK K
       (try simp only [Act.put]);(try simp only [List.setIfInBounds_toArray]);(try simp only [List.set_cons_succ]);(try simp only [List.set_cons_zero])
       refine wpAnyH_ready (rs:=[13]) (by kernel_rfl) (by simp) ?_
       refine AllReadyH.cons (o:=_) rfl (fun K hK => ?_) ?_
       ·go_simp
        refine hK.out _ _ ?_ (fun hHeld => ?_)
        ·assumption
        clear hK K
        (try simp only [Act.put]);(try simp only [List.setIfInBounds_toArray]);(try simp only [List.set_cons_succ]);(try simp only [List.set_cons_zero])
        refine wpAnyH_ready (rs:=[21]) (by kernel_rfl) (by simp) ?_
        refine AllReadyH.cons (o:=_) rfl (fun K hK => ?_) ?_
        ·(refine step_append_near (by rfl) (.tmp 131) (.tmp 138) 25 (by rfl) B 49 i0 (.agg #[.int .i64 0,.int .i64 0,.int .i64 0,.int .i64 0,.string ByteArray.empty,.float .f64 0]) 6 56 Tryz.underlying25 hi hz0 hz1 hz2 rfl (by decide) _ ls.length (ls.flatMap movC) (by rfl) (World.ownsRow.alloc hown.out _) w5.heap.size 1 1 [Value.int .i64 m.t.c,.int .i64 m.t.r,.int .i64 m.pa,.int .i64 m.ch,.string m.nm,.float .f64 m.rk] (by rfl) rfl (alloc_new w5 _) on6.out (by unfold maxLen;omega) (by omega) (by simp;omega) ?_;intro v6 w6 hown6 hgrow hnear;obtain ⟨a6,k6,e6⟩:=(own_sl hown6.out).len;subst e6;have hT6:=fam_other hgrow.out (alloc_at _ hT5.out) hnT.out;have x1:w6.cell? ⟨T,a,none⟩ = some (.slice au ls.length ku):=(cell_at hT6 a).trans hut.out;have f1:w6.frozen? ⟨T,a,none⟩ = false:=free_at hT6 a;have K6:=hid (K5a.out.grown hgrow.out (by simp;omega) (fun j e => Nat.le_trans hwl (hlu.out j e).1));replace hT6:=hid hT6)
         refine hK.out _ _ ?_ (fun hHeld => ?_)
         ·exact HSS.out _ K6.out
         clear hK K
         (try simp only [Act.put]);(try simp only [List.setIfInBounds_toArray]);(try simp only [List.set_cons_succ]);(try simp only [List.set_cons_zero])
         refine wpAnyH_take (i:=22) (oi:=_) (v:=?_) rfl (by kernel_rfl) (by kernel_rfl) (by kernel_rfl) (fun _ _ _ h => h) (Or.inl ⟨by rfl,?_⟩) (by assumption) ?_
         rotate_left
         ·intro w hSw;(try dsimp only at hSw);go_simp;(try with_reducible rfl)
         (try simp only [Act.put]);(try simp only [List.setIfInBounds_toArray]);(try simp only [List.set_cons_succ]);(try simp only [List.set_cons_zero])
         refine wpAnyH_ready (rs:=[23]) (by kernel_rfl) (by simp) ?_
         refine AllReadyH.cons (o:=_) rfl (fun K hK => ?_) ?_
         ·go_simp
          refine hK.out _ _ ?_ (fun hHeld => ?_)
          ·exact HSS.out _ (K6.out.setCell (p:=⟨T,a,none⟩) hwT _)
          clear hK K
          (try simp only [Act.put]);(try simp only [List.setIfInBounds_toArray]);(try simp only [List.set_cons_succ]);(try simp only [List.set_cons_zero])
          refine wpAnyH_done (by kernel_rfl) ?_ _
          have hgr:=hgrow.out;obtain ⟨w7,hw7⟩:∃ w7,w6.setCell ⟨T,a,none⟩ (.slice a6 (ls.length + 1) k6) = w7:=⟨_,rfl⟩
          have hoth:∀ k,k ≠ T → w7.heap[k]? = w6.heap[k]?:=fun k hk => by rw [← hw7];exact setCell_heap_other hk
          have hs7:w7.heap.size = w6.heap.size:=by rw [← hw7];simp [World.setCell]
          have K7:Below w.heap.size w w7:=by rw [← hw7];exact K6.out.setCell (p:=⟨T,a,none⟩) hwT _
          have hT7:=set_at hT6.out a (.slice a6 (ls.length + 1) k6);simp only [List.setIfInBounds_toArray] at hT7;rw [hw7] at hT7 ⊢;have hM7:=(hM5.out.below ((Below.refl w5.heap.size w5).alloc (Nat.le_refl _) (.cells #[.int .i64 m.t.c,.int .i64 m.t.r,.int .i64 m.pa,.int .i64 m.ch,.string m.nm,.float .f64 m.rk] 49)).drew).app (m:=m) hu.out hls.out hown6.out hgr hnear.out hT7 hoth (by omega);have hY:=hid (MR.yes (ms:=[m]) hR.out.run hR.out.sh hd.out hSt.out hls.out (by simp) htk.out hM7 K7);have z0:=HSx.out w7 K7;have z1:=HSy.out w7 K7
          replace hM7:=hid hM7;replace hT7:=hid hT7;replace K7:=hid K7;replace hoth:=hid hoth;replace hw7:=hid hw7;clear hgr hown6 hgrow hnear x1 f1 x0 q0 q1 q3 m0 m1 m2 m3 m4 m5 hHeld;go_wp2_with fail
          go_roundw
          case rel => exact ⟨k + 1,vp',xs',pool',_,_,by go_num,by omega,hY⟩
          case measure => simp [intOf];omega
         exact AllReadyH.nil
        exact AllReadyH.nil
       exact AllReadyH.nil
      exact AllReadyH.nil
     exact AllReadyH.nil
    ·have t3:(kind == 1) = false:=by rw [beq_eq_false_iff_ne];exact hk1
     by_cases hk2:kind = 2
     ·subst hk2
      obtain ⟨h0,h1⟩:=hp2 rfl;obtain ⟨j,hj⟩:∃ j:Nat,at_ = (j:Int):=⟨at_.toNat,by omega⟩;subst hj;obtain ⟨m,hm⟩:=some_at (l:=pool') (k:=j) (by omega)
      have e1:tookD ⟨2,(a:Int),frm,(j:Int),pa,ch,nm,rk⟩ pool' = some m:=by
       unfold tookD;rw [if_neg (show ¬ (2:Int) = 1 by decide),if_pos rfl];exact hm
      rw [e1] at htk
      have j1:(0:Int) ≤ (j:Int):=by omega
      have j2:(j:Int) < (pool'.length:Nat):=by omega
      have j3:¬ (j:Int) < 0:=by omega
      have j4:¬ ((pool'.length:Nat):Int) ≤ (j:Int):=by omega
      obtain ⟨u,hu⟩:=some_at (l:=tvs) (k:=a) (by have:=hM5.out.len;have:=(List.getElem?_eq_some_iff.1 hls).1;omega);have hown:=hM5.out.own a u ls hu hls;obtain ⟨au,ku,eu⟩:=(own_sl hown).len;subst eu
      have hlu:=fun j (e:(Value.slice au ls.length ku).ownBlock = some j) => hown.lt j e
      have hT5:=hM5.out.t;have hlT:=lt_of_block hT5;have x0:w5.cell? ⟨T,a,none⟩ = some (.slice au ls.length ku):=(cell_at hT5 a).trans (by simpa using hu);obtain ⟨bc,oc,rfl⟩:=hC5.out.addr (by have:=(List.getElem?_eq_some_iff.1 hm).1;omega);have hlc:=sl_lt hC5.out (by have:=(List.getElem?_eq_some_iff.1 hm).1;omega);obtain ⟨m0,m1,m2,m3,m4,m5⟩:=mov_at hC5.out rfl hm
      have hut:tvs.toArray[a]? = some (.slice au ls.length ku):=by simpa using hu
      have hnT:(Value.slice au ls.length ku).ownBlock ≠ some T:=hM5.out.nt _ (List.mem_of_getElem? hu);have hsh:=hR.out.sh ls (List.mem_of_getElem? hls);have hBT:=hM5.out.bt;have hB5:=K5.out.size
      have hBs:B ≤ w5.heap.size:=by omega
      have on6:∀ u ∈ [Value.int .i64 m.t.c,.int .i64 m.t.r,.int .i64 m.pa,.int .i64 m.ch,.string m.nm,.float .f64 m.rk],u.oneCell' = true:=movC_one m;have HSx:=hid (fun W (h:Below w.heap.size w W) => (dd_at (HS.out.below h) rfl hd.out).1);have HSy:=hid (fun W (h:Below w.heap.size w W) => (dd_at (HS.out.below h) rfl hd.out).2.1);simp only at HSx HSy;replace hown:=hid hown;replace hut:=hid hut;replace hlu:=hid hlu;replace hT5:=hid hT5;replace hnT:=hid hnT;replace on6:=hid on6;replace hu:=hid hu;replace hm:=hid hm;replace htk:=hid htk
      replace hls:=hid hls;replace hp1:=hid hp1;replace hp2:=hid hp2;replace ha:=hid ha;replace ha':=hid ha';replace hsh:=hid hsh;have hwl:w.heap.size ≤ B:=hBw
      have hkl:k + 1 ≤ 46:=by omega
      have hls1:ls.length + 1 ≤ 60:=by have:=hsh.out;omega
      clear e1;go_wp2_with fail;have HSw:=hid (fun W (h:Below w.heap.size w W) => (dd_at (HS.out.below h) rfl hd.out).2.2.2.1);simp only at HSw;have HSS:=hid (fun W (h:Below w.heap.size w W) => And.intro (HSy.out W h) (HSw.out W h))
      have hwT:w.heap.size ≤ T:=by omega
      have K5d:=hid (K5.out.drew);have K5a:=hid ((K5.out.alloc hB5 (.cells #[.int .i64 m.t.c,.int .i64 m.t.r,.int .i64 m.pa,.int .i64 m.ch,.string m.nm,.float .f64 m.rk] 49)).drew);refine wp_region_held_drew (S:=fun W => W.cell? ⟨bd,off + k * 8 + 1,none⟩ = some (.int .i64 (a:Int)) ∧ W.cell? ⟨bd,off + k * 8 + 3,none⟩ = some (.int .i64 (j:Int))) (by kernel_rfl) ?_ (fun hHeld => ?_)
      ·exact HSS.out _ K5d.out
      refine wpAnyH_take (i:=0) (oi:=_) (v:=?_) rfl (by kernel_rfl) (by kernel_rfl) (by kernel_rfl) (fun _ _ _ h => h) (Or.inl ⟨by rfl,?_⟩) (by assumption) ?_
      rotate_left
      ·intro w hSw;(try dsimp only at hSw);go_simp;(try with_reducible rfl)
      (try simp only [Act.put]);(try simp only [List.setIfInBounds_toArray]);(try simp only [List.set_cons_succ]);(try simp only [List.set_cons_zero])
      refine wpAnyH_take (i:=1) (oi:=_) (v:=?_) rfl (by kernel_rfl) (by kernel_rfl) (by kernel_rfl) (fun _ _ _ h => h) (Or.inl ⟨by rfl,?_⟩) (by assumption) ?_
      rotate_left
      ·intro w hSw;(try dsimp only at hSw);go_simp;(try with_reducible rfl)
      (try simp only [Act.put]);(try simp only [List.setIfInBounds_toArray]);(try simp only [List.set_cons_succ]);(try simp only [List.set_cons_zero])
      refine wpAnyH_take (i:=2) (oi:=_) (v:=?_) rfl (by kernel_rfl) (by kernel_rfl) (by kernel_rfl) (fun _ _ _ h => h) (Or.inl ⟨by rfl,?_⟩) (by assumption) ?_
      rotate_left
      ·intro w hSw;(try dsimp only at hSw);go_simp;(try with_reducible rfl)
      (try simp only [Act.put]);(try simp only [List.setIfInBounds_toArray]);(try simp only [List.set_cons_succ]);(try simp only [List.set_cons_zero])
      refine wpAnyH_take (i:=3) (oi:=_) (v:=?_) rfl (by kernel_rfl) (by kernel_rfl) (by kernel_rfl) (fun _ _ _ h => h) (Or.inl ⟨by rfl,?_⟩) (by assumption) ?_
      rotate_left
      ·intro w hSw;(try dsimp only at hSw);go_simp;(try with_reducible rfl)
      (try simp only [Act.put]);(try simp only [List.setIfInBounds_toArray]);(try simp only [List.set_cons_succ]);(try simp only [List.set_cons_zero])
      refine wpAnyH_take (i:=4) (oi:=_) (v:=?_) rfl (by kernel_rfl) (by kernel_rfl) (by kernel_rfl) (fun _ _ _ h => h) (Or.inl ⟨by rfl,?_⟩) (by assumption) ?_
      rotate_left
      ·intro w hSw;(try dsimp only at hSw);go_simp;(try with_reducible rfl)
      (try simp only [Act.put]);(try simp only [List.setIfInBounds_toArray]);(try simp only [List.set_cons_succ]);(try simp only [List.set_cons_zero])
      refine wpAnyH_take (i:=5) (oi:=_) (v:=?_) rfl (by kernel_rfl) (by kernel_rfl) (by kernel_rfl) (fun _ _ _ h => h) (Or.inl ⟨by rfl,?_⟩) (by assumption) ?_
      rotate_left
      ·intro w hSw;(try dsimp only at hSw);go_simp;(try with_reducible rfl)
      (try simp only [Act.put]);(try simp only [List.setIfInBounds_toArray]);(try simp only [List.set_cons_succ]);(try simp only [List.set_cons_zero])
      refine wpAnyH_take (i:=6) (oi:=_) (v:=?_) rfl (by kernel_rfl) (by kernel_rfl) (by kernel_rfl) (fun _ _ _ h => h) (Or.inl ⟨by rfl,?_⟩) (by assumption) ?_
      rotate_left
      ·intro w hSw;(try dsimp only at hSw);go_simp;(try with_reducible rfl)
      (try simp only [Act.put]);(try simp only [List.setIfInBounds_toArray]);(try simp only [List.set_cons_succ]);(try simp only [List.set_cons_zero])
      refine wpAnyH_take (i:=7) (oi:=_) (v:=?_) rfl (by kernel_rfl) (by kernel_rfl) (by kernel_rfl) (fun _ _ _ h => h) (Or.inl ⟨by rfl,?_⟩) (by assumption) ?_
      rotate_left
      ·intro w hSw;(try dsimp only at hSw);go_simp;(try with_reducible rfl)
      (try simp only [Act.put]);(try simp only [List.setIfInBounds_toArray]);(try simp only [List.set_cons_succ]);(try simp only [List.set_cons_zero])
      refine wpAnyH_take (i:=8) (oi:=_) (v:=?_) rfl (by kernel_rfl) (by kernel_rfl) (by kernel_rfl) (fun _ _ _ h => h) (Or.inl ⟨by rfl,?_⟩) (by assumption) ?_
      rotate_left
      ·intro w hSw;(try dsimp only at hSw);go_simp;(try with_reducible rfl)
      (try simp only [Act.put]);(try simp only [List.setIfInBounds_toArray]);(try simp only [List.set_cons_succ]);(try simp only [List.set_cons_zero])
      refine wpAnyH_take (i:=9) (oi:=_) (v:=?_) rfl (by kernel_rfl) (by kernel_rfl) (by kernel_rfl) (fun _ _ _ h => h) (Or.inl ⟨by rfl,?_⟩) (by assumption) ?_
      rotate_left
      ·intro w hSw;(try dsimp only at hSw);go_simp;(try with_reducible rfl)
      (try simp only [Act.put]);(try simp only [List.setIfInBounds_toArray]);(try simp only [List.set_cons_succ]);(try simp only [List.set_cons_zero])
      refine wpAnyH_take (i:=10) (oi:=_) (v:=?_) rfl (by kernel_rfl) (by kernel_rfl) (by kernel_rfl) (fun _ _ _ h => h) (Or.inl ⟨by rfl,?_⟩) (by assumption) ?_
      rotate_left
      ·intro w hSw;(try dsimp only at hSw);go_simp;(try with_reducible rfl)
      (try simp only [Act.put]);(try simp only [List.setIfInBounds_toArray]);(try simp only [List.set_cons_succ]);(try simp only [List.set_cons_zero])
      refine wpAnyH_take (i:=11) (oi:=_) (v:=?_) rfl (by kernel_rfl) (by kernel_rfl) (by kernel_rfl) (fun _ _ _ h => h) (Or.inl ⟨by rfl,?_⟩) (by assumption) ?_
      rotate_left
      ·intro w hSw;(try dsimp only at hSw);go_simp;(try with_reducible rfl)
      (try simp only [Act.put]);(try simp only [List.setIfInBounds_toArray]);(try simp only [List.set_cons_succ]);(try simp only [List.set_cons_zero])
      refine wpAnyH_take (i:=12) (oi:=_) (v:=?_) rfl (by kernel_rfl) (by kernel_rfl) (by kernel_rfl) (fun _ _ _ h => h) (Or.inl ⟨by rfl,?_⟩) (by assumption) ?_
      rotate_left
      ·intro w hSw;(try dsimp only at hSw);go_simp;(try with_reducible rfl)
      (try simp only [Act.put]);(try simp only [List.setIfInBounds_toArray]);(try simp only [List.set_cons_succ]);(try simp only [List.set_cons_zero])
      refine wpAnyH_take (i:=14) (oi:=_) (v:=?_) rfl (by kernel_rfl) (by kernel_rfl) (by kernel_rfl) (fun _ _ _ h => h) (Or.inl ⟨by rfl,?_⟩) (by assumption) ?_
      rotate_left
      ·intro w hSw;(try dsimp only at hSw);go_simp;(try with_reducible rfl)
      (try simp only [Act.put]);(try simp only [List.setIfInBounds_toArray]);(try simp only [List.set_cons_succ]);(try simp only [List.set_cons_zero])
      refine wpAnyH_take (i:=15) (oi:=_) (v:=?_) rfl (by kernel_rfl) (by kernel_rfl) (by kernel_rfl) (fun _ _ _ h => h) (Or.inl ⟨by rfl,?_⟩) (by assumption) ?_
      rotate_left
      ·intro w hSw;(try dsimp only at hSw);go_simp;(try with_reducible rfl)
      (try simp only [Act.put]);(try simp only [List.setIfInBounds_toArray]);(try simp only [List.set_cons_succ]);(try simp only [List.set_cons_zero])
      refine wpAnyH_take (i:=16) (oi:=_) (v:=?_) rfl (by kernel_rfl) (by kernel_rfl) (by kernel_rfl) (fun _ _ _ h => h) (Or.inl ⟨by rfl,?_⟩) (by assumption) ?_
      rotate_left
      ·intro w hSw;(try dsimp only at hSw);go_simp;(try with_reducible rfl)
      (try simp only [Act.put]);(try simp only [List.setIfInBounds_toArray]);(try simp only [List.set_cons_succ]);(try simp only [List.set_cons_zero])
      refine wpAnyH_take (i:=17) (oi:=_) (v:=?_) rfl (by kernel_rfl) (by kernel_rfl) (by kernel_rfl) (fun _ _ _ h => h) (Or.inl ⟨by rfl,?_⟩) (by assumption) ?_
      rotate_left
      ·intro w hSw;(try dsimp only at hSw);go_simp;(try with_reducible rfl)
      (try simp only [Act.put]);(try simp only [List.setIfInBounds_toArray]);(try simp only [List.set_cons_succ]);(try simp only [List.set_cons_zero])
      refine wpAnyH_take (i:=18) (oi:=_) (v:=?_) rfl (by kernel_rfl) (by kernel_rfl) (by kernel_rfl) (fun _ _ _ h => h) (Or.inl ⟨by rfl,?_⟩) (by assumption) ?_
      rotate_left
      ·intro w hSw;(try dsimp only at hSw);go_simp;(try with_reducible rfl)
      (try simp only [Act.put]);(try simp only [List.setIfInBounds_toArray]);(try simp only [List.set_cons_succ]);(try simp only [List.set_cons_zero])
      refine wpAnyH_take (i:=19) (oi:=_) (v:=?_) rfl (by kernel_rfl) (by kernel_rfl) (by kernel_rfl) (fun _ _ _ h => h) (Or.inl ⟨by rfl,?_⟩) (by assumption) ?_
      rotate_left
      ·intro w hSw;(try dsimp only at hSw);go_simp;(try with_reducible rfl)
      (try simp only [Act.put]);(try simp only [List.setIfInBounds_toArray]);(try simp only [List.set_cons_succ]);(try simp only [List.set_cons_zero])
      refine wpAnyH_take (i:=20) (oi:=_) (v:=?_) rfl (by kernel_rfl) (by kernel_rfl) (by kernel_rfl) (fun _ _ _ h => h) (Or.inl ⟨by rfl,?_⟩) (by assumption) ?_
      rotate_left
      ·intro w hSw;(try dsimp only at hSw);go_simp;(try with_reducible rfl)
      (try simp only [Act.put]);(try simp only [List.setIfInBounds_toArray]);(try simp only [List.set_cons_succ]);(try simp only [List.set_cons_zero])
      refine wpAnyH_ready (rs:=[13,21]) (by kernel_rfl) (by simp) ?_
      refine AllReadyH.cons (o:=_) rfl (fun K hK => ?_) ?_
      ·go_simp
       refine hK.out _ _ ?_ (fun hHeld => ?_)
       ·assumption
       clear hK K
       (try simp only [Act.put]);(try simp only [List.setIfInBounds_toArray]);(try simp only [List.set_cons_succ]);(try simp only [List.set_cons_zero])
       refine wpAnyH_ready (rs:=[21]) (by kernel_rfl) (by simp) ?_
       refine AllReadyH.cons (o:=_) rfl (fun K hK => ?_) ?_
       ·go_simp
        refine hK.out _ _ ?_ (fun hHeld => ?_)
        ·assumption
        clear hK K
        (try simp only [Act.put]);(try simp only [List.setIfInBounds_toArray]);(try simp only [List.set_cons_succ]);(try simp only [List.set_cons_zero])
        refine wpAnyH_ready (rs:=[22]) (by kernel_rfl) (by simp) ?_
        refine AllReadyH.cons (o:=_) rfl (fun K hK => ?_) ?_
        ·go_simp
         refine hK.out _ _ ?_ (fun hHeld => ?_)
         ·exact HSS.out _ K5a.out
         clear hK K
         (try simp only [Act.put]);(try simp only [List.setIfInBounds_toArray]);(try simp only [List.set_cons_succ]);(try simp only [List.set_cons_zero])
         refine wpAnyH_ready (rs:=[23]) (by kernel_rfl) (by simp) ?_
         refine AllReadyH.cons (o:=_) rfl (fun K hK => ?_) ?_
         ·(refine step_append_near (by rfl) (.tmp 164) (.tmp 173) 25 (by rfl) B 49 i0 (.agg #[.int .i64 0,.int .i64 0,.int .i64 0,.int .i64 0,.string ByteArray.empty,.float .f64 0]) 6 56 Tryz.underlying25 hi hz0 hz1 hz2 rfl (by decide) _ ls.length (ls.flatMap movC) (by rfl) (World.ownsRow.alloc hown.out _) w5.heap.size 1 1 [Value.int .i64 m.t.c,.int .i64 m.t.r,.int .i64 m.pa,.int .i64 m.ch,.string m.nm,.float .f64 m.rk] (by rfl) rfl (alloc_new w5 _) on6.out (by unfold maxLen;omega) (by omega) (by simp;omega) ?_;intro v6 w6 hown6 hgrow hnear;obtain ⟨a6,k6,e6⟩:=(own_sl hown6.out).len;subst e6;have hT6:=fam_other hgrow.out (alloc_at _ hT5.out) hnT.out;have x1:w6.cell? ⟨T,a,none⟩ = some (.slice au ls.length ku):=(cell_at hT6 a).trans hut.out;have f1:w6.frozen? ⟨T,a,none⟩ = false:=free_at hT6 a;have K6:=hid (K5a.out.grown hgrow.out (by simp;omega) (fun j e => Nat.le_trans hwl (hlu.out j e).1));replace hT6:=hid hT6)
          refine hK.out _ _ ?_ (fun hHeld => ?_)
          ·exact HSS.out _ K6.out
          clear hK K
          (try simp only [Act.put]);(try simp only [List.setIfInBounds_toArray]);(try simp only [List.set_cons_succ]);(try simp only [List.set_cons_zero])
          refine wpAnyH_take (i:=24) (oi:=_) (v:=?_) rfl (by kernel_rfl) (by kernel_rfl) (by kernel_rfl) (fun _ _ _ h => h) (Or.inl ⟨by rfl,?_⟩) (by assumption) ?_
          rotate_left
          ·intro w hSw;(try dsimp only at hSw);go_simp;(try with_reducible rfl)
          (try simp only [Act.put]);(try simp only [List.setIfInBounds_toArray]);(try simp only [List.set_cons_succ]);(try simp only [List.set_cons_zero])
          refine wpAnyH_ready (rs:=[25]) (by kernel_rfl) (by simp) ?_
          refine AllReadyH.cons (o:=_) rfl (fun K hK => ?_) ?_
          ·go_simp
           refine hK.out _ _ ?_ (fun hHeld => ?_)
           ·exact HSS.out _ (K6.out.setCell (p:=⟨T,a,none⟩) hwT _)
           clear hK K
           (try simp only [Act.put]);(try simp only [List.setIfInBounds_toArray]);(try simp only [List.set_cons_succ]);(try simp only [List.set_cons_zero])
           refine wpAnyH_done (by kernel_rfl) ?_ _
           have hgr:=hgrow.out;obtain ⟨w7,hw7⟩:∃ w7,w6.setCell ⟨T,a,none⟩ (.slice a6 (ls.length + 1) k6) = w7:=⟨_,rfl⟩
           have hoth:∀ k,k ≠ T → w7.heap[k]? = w6.heap[k]?:=fun k hk => by rw [← hw7];exact setCell_heap_other hk
           have hs7:w7.heap.size = w6.heap.size:=by rw [← hw7];simp [World.setCell]
           have K7:Below w.heap.size w w7:=by rw [← hw7];exact K6.out.setCell (p:=⟨T,a,none⟩) hwT _
           have hT7:=set_at hT6.out a (.slice a6 (ls.length + 1) k6);simp only [List.setIfInBounds_toArray] at hT7;rw [hw7] at hT7 ⊢;have hM7:=(hM5.out.below ((Below.refl w5.heap.size w5).alloc (Nat.le_refl _) (.cells #[.int .i64 m.t.c,.int .i64 m.t.r,.int .i64 m.pa,.int .i64 m.ch,.string m.nm,.float .f64 m.rk] 49)).drew).app (m:=m) hu.out hls.out hown6.out hgr hnear.out hT7 hoth (by omega);have hY:=hid (MR.yes (ms:=[m]) hR.out.run hR.out.sh hd.out hSt.out hls.out (by simp) htk.out hM7 K7);have z0:=HSx.out w7 K7;have z1:=HSy.out w7 K7
           replace hM7:=hid hM7;replace hT7:=hid hT7;replace K7:=hid K7;replace hoth:=hid hoth;replace hw7:=hid hw7;clear hgr hown6 hgrow hnear x1 f1 x0 q0 q1 q3 m0 m1 m2 m3 m4 m5 hHeld;go_wp2_with fail
           go_roundw
           case rel => exact ⟨k + 1,vp',xs',pool',_,_,by go_num,by omega,hY⟩
           case measure => simp [intOf];omega
          exact AllReadyH.nil
         exact AllReadyH.nil
        exact AllReadyH.nil
       exact AllReadyH.nil
      refine AllReadyH.cons (o:=_) rfl (fun K hK => ?_) ?_
      ·go_simp
       refine hK.out _ _ ?_ (fun hHeld => ?_)
       ·assumption
       clear hK K
       (try simp only [Act.put]);(try simp only [List.setIfInBounds_toArray]);(try simp only [List.set_cons_succ]);(try simp only [List.set_cons_zero])
       refine wpAnyH_ready (rs:=[13,22]) (by kernel_rfl) (by simp) ?_
       refine AllReadyH.cons (o:=_) rfl (fun K hK => ?_) ?_
       ·go_simp
        refine hK.out _ _ ?_ (fun hHeld => ?_)
        ·assumption
        clear hK K
        (try simp only [Act.put]);(try simp only [List.setIfInBounds_toArray]);(try simp only [List.set_cons_succ]);(try simp only [List.set_cons_zero])
        refine wpAnyH_ready (rs:=[22]) (by kernel_rfl) (by simp) ?_
        refine AllReadyH.cons (o:=_) rfl (fun K hK => ?_) ?_
        ·go_simp
         refine hK.out _ _ ?_ (fun hHeld => ?_)
         ·exact HSS.out _ K5a.out
         clear hK K
         (try simp only [Act.put]);(try simp only [List.setIfInBounds_toArray]);(try simp only [List.set_cons_succ]);(try simp only [List.set_cons_zero])
         refine wpAnyH_ready (rs:=[23]) (by kernel_rfl) (by simp) ?_
         refine AllReadyH.cons (o:=_) rfl (fun K hK => ?_) ?_
         ·(refine step_append_near (by rfl) (.tmp 164) (.tmp 173) 25 (by rfl) B 49 i0 (.agg #[.int .i64 0,.int .i64 0,.int .i64 0,.int .i64 0,.string ByteArray.empty,.float .f64 0]) 6 56 Tryz.underlying25 hi hz0 hz1 hz2 rfl (by decide) _ ls.length (ls.flatMap movC) (by rfl) (World.ownsRow.alloc hown.out _) w5.heap.size 1 1 [Value.int .i64 m.t.c,.int .i64 m.t.r,.int .i64 m.pa,.int .i64 m.ch,.string m.nm,.float .f64 m.rk] (by rfl) rfl (alloc_new w5 _) on6.out (by unfold maxLen;omega) (by omega) (by simp;omega) ?_;intro v6 w6 hown6 hgrow hnear;obtain ⟨a6,k6,e6⟩:=(own_sl hown6.out).len;subst e6;have hT6:=fam_other hgrow.out (alloc_at _ hT5.out) hnT.out;have x1:w6.cell? ⟨T,a,none⟩ = some (.slice au ls.length ku):=(cell_at hT6 a).trans hut.out;have f1:w6.frozen? ⟨T,a,none⟩ = false:=free_at hT6 a;have K6:=hid (K5a.out.grown hgrow.out (by simp;omega) (fun j e => Nat.le_trans hwl (hlu.out j e).1));replace hT6:=hid hT6)
          refine hK.out _ _ ?_ (fun hHeld => ?_)
          ·exact HSS.out _ K6.out
          clear hK K
          (try simp only [Act.put]);(try simp only [List.setIfInBounds_toArray]);(try simp only [List.set_cons_succ]);(try simp only [List.set_cons_zero])
          refine wpAnyH_take (i:=24) (oi:=_) (v:=?_) rfl (by kernel_rfl) (by kernel_rfl) (by kernel_rfl) (fun _ _ _ h => h) (Or.inl ⟨by rfl,?_⟩) (by assumption) ?_
          rotate_left
          ·intro w hSw;(try dsimp only at hSw);go_simp;(try with_reducible rfl)
          (try simp only [Act.put]);(try simp only [List.setIfInBounds_toArray]);(try simp only [List.set_cons_succ]);(try simp only [List.set_cons_zero])
          refine wpAnyH_ready (rs:=[25]) (by kernel_rfl) (by simp) ?_
          refine AllReadyH.cons (o:=_) rfl (fun K hK => ?_) ?_
          ·go_simp
           refine hK.out _ _ ?_ (fun hHeld => ?_)
           ·exact HSS.out _ (K6.out.setCell (p:=⟨T,a,none⟩) hwT _)
           clear hK K
           (try simp only [Act.put]);(try simp only [List.setIfInBounds_toArray]);(try simp only [List.set_cons_succ]);(try simp only [List.set_cons_zero])
           refine wpAnyH_done (by kernel_rfl) ?_ _
           have hgr:=hgrow.out;obtain ⟨w7,hw7⟩:∃ w7,w6.setCell ⟨T,a,none⟩ (.slice a6 (ls.length + 1) k6) = w7:=⟨_,rfl⟩
           have hoth:∀ k,k ≠ T → w7.heap[k]? = w6.heap[k]?:=fun k hk => by rw [← hw7];exact setCell_heap_other hk
           have hs7:w7.heap.size = w6.heap.size:=by rw [← hw7];simp [World.setCell]
           have K7:Below w.heap.size w w7:=by rw [← hw7];exact K6.out.setCell (p:=⟨T,a,none⟩) hwT _
           have hT7:=set_at hT6.out a (.slice a6 (ls.length + 1) k6);simp only [List.setIfInBounds_toArray] at hT7;rw [hw7] at hT7 ⊢;have hM7:=(hM5.out.below ((Below.refl w5.heap.size w5).alloc (Nat.le_refl _) (.cells #[.int .i64 m.t.c,.int .i64 m.t.r,.int .i64 m.pa,.int .i64 m.ch,.string m.nm,.float .f64 m.rk] 49)).drew).app (m:=m) hu.out hls.out hown6.out hgr hnear.out hT7 hoth (by omega);have hY:=hid (MR.yes (ms:=[m]) hR.out.run hR.out.sh hd.out hSt.out hls.out (by simp) htk.out hM7 K7);have z0:=HSx.out w7 K7;have z1:=HSy.out w7 K7
           replace hM7:=hid hM7;replace hT7:=hid hT7;replace K7:=hid K7;replace hoth:=hid hoth;replace hw7:=hid hw7;clear hgr hown6 hgrow hnear x1 f1 x0 q0 q1 q3 m0 m1 m2 m3 m4 m5 hHeld;go_wp2_with fail
           go_roundw
           case rel => exact ⟨k + 1,vp',xs',pool',_,_,by go_num,by omega,hY⟩
           case measure => simp [intOf];omega
          exact AllReadyH.nil
         exact AllReadyH.nil
        exact AllReadyH.nil
       refine AllReadyH.cons (o:=_) rfl (fun K hK => ?_) ?_
       ·go_simp
        refine hK.out _ _ ?_ (fun hHeld => ?_)
        ·exact HSS.out _ K5a.out
        clear hK K
        (try simp only [Act.put]);(try simp only [List.setIfInBounds_toArray]);(try simp only [List.set_cons_succ]);(try simp only [List.set_cons_zero])
        refine wpAnyH_ready (rs:=[13]) (by kernel_rfl) (by simp) ?_
        refine AllReadyH.cons (o:=_) rfl (fun K hK => ?_) ?_
        ·go_simp
         refine hK.out _ _ ?_ (fun hHeld => ?_)
         ·assumption
         clear hK K
         (try simp only [Act.put]);(try simp only [List.setIfInBounds_toArray]);(try simp only [List.set_cons_succ]);(try simp only [List.set_cons_zero])
         refine wpAnyH_ready (rs:=[23]) (by kernel_rfl) (by simp) ?_
         refine AllReadyH.cons (o:=_) rfl (fun K hK => ?_) ?_
         ·(refine step_append_near (by rfl) (.tmp 164) (.tmp 173) 25 (by rfl) B 49 i0 (.agg #[.int .i64 0,.int .i64 0,.int .i64 0,.int .i64 0,.string ByteArray.empty,.float .f64 0]) 6 56 Tryz.underlying25 hi hz0 hz1 hz2 rfl (by decide) _ ls.length (ls.flatMap movC) (by rfl) (World.ownsRow.alloc hown.out _) w5.heap.size 1 1 [Value.int .i64 m.t.c,.int .i64 m.t.r,.int .i64 m.pa,.int .i64 m.ch,.string m.nm,.float .f64 m.rk] (by rfl) rfl (alloc_new w5 _) on6.out (by unfold maxLen;omega) (by omega) (by simp;omega) ?_;intro v6 w6 hown6 hgrow hnear;obtain ⟨a6,k6,e6⟩:=(own_sl hown6.out).len;subst e6;have hT6:=fam_other hgrow.out (alloc_at _ hT5.out) hnT.out;have x1:w6.cell? ⟨T,a,none⟩ = some (.slice au ls.length ku):=(cell_at hT6 a).trans hut.out;have f1:w6.frozen? ⟨T,a,none⟩ = false:=free_at hT6 a;have K6:=hid (K5a.out.grown hgrow.out (by simp;omega) (fun j e => Nat.le_trans hwl (hlu.out j e).1));replace hT6:=hid hT6)
          refine hK.out _ _ ?_ (fun hHeld => ?_)
          ·exact HSS.out _ K6.out
          clear hK K
          (try simp only [Act.put]);(try simp only [List.setIfInBounds_toArray]);(try simp only [List.set_cons_succ]);(try simp only [List.set_cons_zero])
          refine wpAnyH_take (i:=24) (oi:=_) (v:=?_) rfl (by kernel_rfl) (by kernel_rfl) (by kernel_rfl) (fun _ _ _ h => h) (Or.inl ⟨by rfl,?_⟩) (by assumption) ?_
          rotate_left
          ·intro w hSw;(try dsimp only at hSw);go_simp;(try with_reducible rfl)
          (try simp only [Act.put]);(try simp only [List.setIfInBounds_toArray]);(try simp only [List.set_cons_succ]);(try simp only [List.set_cons_zero])
          refine wpAnyH_ready (rs:=[25]) (by kernel_rfl) (by simp) ?_
          refine AllReadyH.cons (o:=_) rfl (fun K hK => ?_) ?_
          ·go_simp
           refine hK.out _ _ ?_ (fun hHeld => ?_)
           ·exact HSS.out _ (K6.out.setCell (p:=⟨T,a,none⟩) hwT _)
           clear hK K
           (try simp only [Act.put]);(try simp only [List.setIfInBounds_toArray]);(try simp only [List.set_cons_succ]);(try simp only [List.set_cons_zero])
           refine wpAnyH_done (by kernel_rfl) ?_ _
           have hgr:=hgrow.out;obtain ⟨w7,hw7⟩:∃ w7,w6.setCell ⟨T,a,none⟩ (.slice a6 (ls.length + 1) k6) = w7:=⟨_,rfl⟩
           have hoth:∀ k,k ≠ T → w7.heap[k]? = w6.heap[k]?:=fun k hk => by rw [← hw7];exact setCell_heap_other hk
           have hs7:w7.heap.size = w6.heap.size:=by rw [← hw7];simp [World.setCell]
           have K7:Below w.heap.size w w7:=by rw [← hw7];exact K6.out.setCell (p:=⟨T,a,none⟩) hwT _
           have hT7:=set_at hT6.out a (.slice a6 (ls.length + 1) k6);simp only [List.setIfInBounds_toArray] at hT7;rw [hw7] at hT7 ⊢;have hM7:=(hM5.out.below ((Below.refl w5.heap.size w5).alloc (Nat.le_refl _) (.cells #[.int .i64 m.t.c,.int .i64 m.t.r,.int .i64 m.pa,.int .i64 m.ch,.string m.nm,.float .f64 m.rk] 49)).drew).app (m:=m) hu.out hls.out hown6.out hgr hnear.out hT7 hoth (by omega);have hY:=hid (MR.yes (ms:=[m]) hR.out.run hR.out.sh hd.out hSt.out hls.out (by simp) htk.out hM7 K7);have z0:=HSx.out w7 K7;have z1:=HSy.out w7 K7
           replace hM7:=hid hM7;replace hT7:=hid hT7;replace K7:=hid K7;replace hoth:=hid hoth;replace hw7:=hid hw7;clear hgr hown6 hgrow hnear x1 f1 x0 q0 q1 q3 m0 m1 m2 m3 m4 m5 hHeld;go_wp2_with fail
           go_roundw
           case rel => exact ⟨k + 1,vp',xs',pool',_,_,by go_num,by omega,hY⟩
           case measure => simp [intOf];omega
          exact AllReadyH.nil
         exact AllReadyH.nil
        exact AllReadyH.nil
       exact AllReadyH.nil
      exact AllReadyH.nil
     ·have t4:(kind == 2) = false:=by rw [beq_eq_false_iff_ne];exact hk2
      have e1:tookD ⟨kind,(a:Int),frm,at_,pa,ch,nm,rk⟩ pool' = none:=by
       unfold tookD;rw [if_neg hk1,if_neg hk2]
      rw [e1] at htk
      have hY:MR w w5 n B p b vp' xs' pool' T tvs tk l (k + 1):=by
       have h:=MR.yes (ms:=[]) hR.out.run hR.out.sh hd.out hSt.out hls (by simp) htk (by rw [set_none hls];exact hM5.out) K5.out;rw [set_none hls] at h;exact h
      replace hY:=hid hY;clear hp1 hp2 htk e1 hls ha ha';go_wp2_with fail
      go_roundw
      case rel => exact ⟨k + 1,vp',xs',pool',tvs,tk,by go_num,by omega,hY⟩
      case measure => simp [intOf];omega
   ·have t3:(c == 0) = false:=by rw [beq_eq_false_iff_ne];exact hc0
    have hY:=hid (MR.no hR.out.run hR.out.ts hR.out.sh hd.out hSt.out hc0 hM5.out K5.out);go_wp2_with fail
    go_roundw
    case rel => exact ⟨k + 1,vp',xs',pool',tvs,tk,by go_num,by omega,hY⟩
    case measure => simp [intOf];omega
  ·obtain rfl:k = l.length:=by omega
   have hge:¬ ((l.length:Int) < (l.length:Nat)):=by omega
   obtain ⟨cs0,hrun⟩:=hR.out.run;rw [List.take_length] at hrun;have hxl:=hrun.len.1;rw [List.length_map] at hxl;have hI:=hrun.inv (fun d hd => (hO.out.2 d hd).2);replace hI:=hid hI;have HWK:=hid works_any;obtain ⟨wo,rfl⟩:∃ wo:World,wo = wr:=⟨_,rfl⟩;clear hrun hk;generalize l.length = K at *;go_wp2_with fail
   go_loopw [10] (fun i wr => ∃ k:Nat,i = .int .i64 (k:Int) ∧ 1 ≤ k ∧ k ≤ n + 1 ∧ Hid (MR w wr n B p b vp xs pool T tvs tk l K)) (fun i _ => 20 - (intOf i).toNat)
   case atStart => exact ⟨1,rfl,by omega,by omega,hR⟩
   case round =>
    clear hR;obtain ⟨a,rfl,ha1,ha2,hR⟩:=hrel
    by_cases han:a ≤ n
    ·have hle1:(a:Int) ≤ (n:Nat):=by omega
     obtain ⟨a',ha'⟩:∃ a',a = a' + 1:=⟨a - 1,by omega⟩;obtain ⟨x,hx⟩:=some_at (l:=xs) (k:=a') (by omega);obtain ⟨ls,hls,hTk⟩:=hR.out.ts.2 a' x.2 (by rw [List.getElem?_map,hx];rfl);rw [← ha'] at hls
     have ha3:(a:Int) < (N:Nat):=by have:=hN.out;omega
     have ha4:(0:Int) ≤ (a:Int):=by omega
     have hM:=hR.out.m;obtain ⟨u,hu⟩:=some_at (l:=tvs) (k:=a) (by have:=hM.len;have:=(List.getElem?_eq_some_iff.1 hls).1;omega);have hown:=hM.own a u ls hu hls;obtain ⟨au,ku,eu⟩:=(own_sl hown).len;subst eu;have hMu:Mem.Mvs wr (.slice au ls.length ku) ls:=own_sl hown;have hT5:=hM.t;have hsh:=hR.out.sh ls (List.mem_of_getElem? hls);have hIx:=hI.out.r x.2 (List.mem_map_of_mem (List.mem_of_getElem? hx));have hOx:=hIx.ok (by have:=hO.out.1;omega);have hwx:=hOx.w;have HRx:=hid (replica_any wr hM.pw a' x hx)
     rw [show ((a':Nat):Int) + 1 = (a:Int) by omega] at HRx;have hrx:=hM.pw.rep x (List.mem_of_getElem? hx);have hmk:x.2.mks = ofM ls:=hTk.km;have hst:=hTk.st;have hl1:=hwx.len;have hl2:=hwx.mlen;have HOF:=hid (fun W (h:Below wr.heap.size wr W) => Mr.of_any _ ls W (Sl.below hMu h) (by omega))
     have HSK:=hid (fun W v (h:Below wr.heap.size wr W) (hv:Mem.Mks W v (ofM ls)) => (by have h:=sameK_any x.1.m v x.2.mks (ofM ls) W (RepW.below hrx h).m hv (by omega);rw [hmk,decide_eq_true rfl] at h;exact h:Calls Tryz.prog 25 #[x.1.m,v] W fun e w' => e = .returned (.bool true) ∧ Below W.heap.size W w'));have HIN:=hid (fun W (m:Mv) (h:Below wr.heap.size wr W) => Mo.insert_any x.1.l x.2.log m W (RepW.below hrx h).l (by omega));obtain ⟨ax,kx,eax⟩:=hrx.b.len;obtain ⟨bx,lx,ebx⟩:=hrx.l.len;obtain ⟨cx,mx,ecx⟩:=hrx.m.len;obtain ⟨⟨va,vb,vc⟩,rx⟩:=x
     simp only at eax ebx ecx HSK HIN hst;subst eax ebx ecx;unfold rpV repV at HRx;unfold movV at HIN;simp only at HRx HIN;replace hst:=hid hst;replace hMu:=hid hMu;replace hT5:=hid hT5;replace hu:=hid hu
     have hlsb:ls.length ≤ 60:=by omega
     replace hsh:=hid hsh;clear hx hls hTk hM hown hIx hOx hwx hrx hmk hl1 hl2 ha';go_wp2_with fail;refine HRx.out.mono ?_
     rintro e w5 ⟨rfl,k5⟩;have g6:=alloc_new w5 (.cells #[.slice ax rx.base.length kx,.int .i64 rx.fl.c,.int .i64 rx.fl.r,.slice bx rx.log.length lx,.slice cx rx.mks.length mx] 34);have K6:=k5.alloc k5.size (.cells #[.slice ax rx.base.length kx,.int .i64 rx.fl.c,.int .i64 rx.fl.r,.slice bx rx.log.length lx,.slice cx rx.mks.length mx] 34);obtain ⟨W6,hW6⟩:∃ W,w5.alloc (.cells #[.slice ax rx.base.length kx,.int .i64 rx.fl.c,.int .i64 rx.fl.r,.slice bx rx.log.length lx,.slice cx rx.mks.length mx] 34) = W:=⟨_,rfl⟩;rw [hW6] at g6 K6
     have hT6:=below_at K6 hT5.out (lt_of_block hT5.out);have hlT6:=lt_of_block hT6;have hlB6:=lt_of_block g6;have hR6:=hR.out.below K6;have K5:=hid (fun W (h:Below W6.heap.size W6 W) => below_at h g6 hlB6);have K7:=hid (fun W (h:Below W6.heap.size W6 W) => below_at h hT6 hlT6)
     have hut:tvs.toArray[a]? = some (.slice au ls.length ku):=by simpa using hu.out
     have cS:∀ W,Below W6.heap.size W6 W → (W.cell? ⟨w5.heap.size,4,none⟩ = some (.slice cx rx.mks.length mx) ∧ W.cell? ⟨T,a,none⟩ = some (.slice au ls.length ku) ∧ Below W6.heap.size W6 W):=fun W h => ⟨cell_at (K5.out W h) 4,(cell_at (K7.out W h) a).trans hut,h⟩
     have hBd:=(Below.refl W6.heap.size W6).drew;have HOF6:=hid (HOF.out W6.drew (K6.trans (hBd.mono K6.size)));have HSK6:=hid (fun W v (h:Below W6.heap.size W6 W) => HSK.out W v (K6.trans (h.mono K6.size)));replace cS:=hid cS;replace g6:=hid g6;replace hT6:=hid hT6;replace hR6:=hid hR6;replace hut:=hid hut;replace K6:=hid K6;replace hW6:=hid hW6;clear k5 HRx HOF HSK hT5
     go_upto_region 22 with fail
     rw [hW6.out];generalize w5.heap.size = B6 at *
     go_region_held3 (fun W:World => W.cell? ⟨B6,4,none⟩ = some (.slice cx rx.mks.length mx) ∧ W.cell? ⟨T,a,none⟩ = some (.slice au ls.length ku) ∧ Below W6.heap.size W6 W)
      (first | with_reducible assumption | with_reducible exact cS.out _ hBd | with_reducible exact cS.out _ hba.out | with_reducible exact cS.out _ hbb.out)
      (first
       | (go_at_call 26;(with_reducible refine HOF6.out.mono ?_);rintro e wa ⟨⟨vt,rfl,ht⟩,ba⟩;obtain ⟨at',kt',et⟩:=(own_sl ht).len;subst et;have hba:=hid (hBd.trans (ba.mono hBd.size));have HS2:=hid (HSK6.out _ _ hba.out (own_sl ht));clear ht ba)
       | (go_at_call 25;(with_reducible refine HS2.out.mono ?_);rintro e wb ⟨rfl,bb⟩;have hbb:=hid (hba.out.trans (bb.mono hba.out.size));clear bb))
     all_goals
      have hR8:=hid (hR6.out.below hbb.out);have hT8:=hid (K7.out _ hbb.out);have g8:=hid (K5.out _ hbb.out);have K8:=hid (K6.out.trans (hbb.out.mono K6.out.size));clear hba HS2 HOF6 HSK6 cS hBd hR6 K5 K7 hT6 g6 K6 hbb hlB6 hlT6;obtain ⟨wq,rfl⟩:∃ wq:World,wq = wb:=⟨_,rfl⟩;go_wp2_with fail
      go_loopw [13] (fun i wr' => ∃ k:Nat,i = .int .i64 (k:Int) ∧ k ≤ ls.length ∧ Hid (MR w wr' n B p b vp xs pool T tvs tk l K) ∧ Hid (wr'.heap[T]? = some (.cells tvs.toArray 25 (0,0))) ∧ Hid (wr'.heap[B6]? = some (.cells #[.slice ax rx.base.length kx,.int .i64 rx.fl.c,.int .i64 rx.fl.r,.slice bx rx.log.length lx,.slice cx rx.mks.length mx] 34 (0,0))) ∧ Hid (Below wr.heap.size wr wr')) (fun i _ => ls.length - (intOf i).toNat)
      case atStart => exact ⟨0,rfl,by omega,hR8,hT8,g8,K8⟩
      case round =>
       clear hR8 hT8 g8 K8;obtain ⟨i,rfl,hi,hR9,hT9,g9,K9⟩:=hrel;obtain ⟨wi,rfl⟩:∃ wi:World,wi = wr:=⟨_,rfl⟩;have y0:wi.cell? ⟨T,a,none⟩ = some (.slice au ls.length ku):=(cell_at hT9.out a).trans hut.out
       by_cases hil:i < ls.length
       ·have hil':(i:Int) < (ls.length:Nat):=by omega
        have hi0:(0:Int) ≤ (i:Int):=by omega
        obtain ⟨m,hm⟩:=some_at hil;obtain ⟨bu,ou,rfl⟩:=hMu.out.addr (by omega);have hMi:=Sl.below hMu.out K9.out;have hlu:=sl_lt hMi (by omega);obtain ⟨n0,n1,n2,n3,n4,n5⟩:=mov_at hMi rfl hm;have hstm:=hst.out m (List.mem_of_getElem? hm);obtain ⟨qb,hqb⟩:∃ q,bef rx.fl m.t = q:=⟨_,rfl⟩;have hBd:=(Below.refl wi.heap.size wi).drew;have HI:=hid (HIN.out wi.drew m (K9.out.trans (hBd.mono K9.out.size)));rw [hstm,hqb] at HI;have hlT9:=lt_of_block hT9.out;have hlB9:=lt_of_block g9.out
        have cS:∀ W,Below wi.heap.size wi W → (W.cell? ⟨B6,3,none⟩ = some (.slice bx rx.log.length lx) ∧ W.cell? ⟨T,a,none⟩ = some (.slice (some ⟨bu,ou,none⟩) ls.length ku) ∧ W.cell? ⟨bu,ou + i * 6,none⟩ = some (.int .i64 m.t.c) ∧ W.cell? ⟨bu,ou + i * 6 + 1,none⟩ = some (.int .i64 m.t.r) ∧ W.cell? ⟨bu,ou + i * 6 + 2,none⟩ = some (.int .i64 m.pa) ∧ W.cell? ⟨bu,ou + i * 6 + 3,none⟩ = some (.int .i64 m.ch) ∧ W.cell? ⟨bu,ou + i * 6 + 4,none⟩ = some (.string m.nm) ∧ W.cell? ⟨bu,ou + i * 6 + 5,none⟩ = some (.float .f64 m.rk) ∧ Below wi.heap.size wi W):=fun W h => ⟨cell_at (below_at h g9.out hlB9) 3,(cell_at (below_at h hT9.out hlT9) a).trans hut.out,(h.cell (p:=⟨bu,ou + i * 6,none⟩) hlu).trans n0,(h.cell (p:=⟨bu,ou + i * 6 + 1,none⟩) hlu).trans n1,(h.cell (p:=⟨bu,ou + i * 6 + 2,none⟩) hlu).trans n2,(h.cell (p:=⟨bu,ou + i * 6 + 3,none⟩) hlu).trans n3,(h.cell (p:=⟨bu,ou + i * 6 + 4,none⟩) hlu).trans n4,(h.cell (p:=⟨bu,ou + i * 6 + 5,none⟩) hlu).trans n5,h⟩
        replace cS:=hid cS;clear hMi n0 n1 n2 n3 n4 n5 hstm
        go_upto_region 27 with fail
        go_region_held3 (fun W:World => W.cell? ⟨B6,3,none⟩ = some (.slice bx rx.log.length lx) ∧ W.cell? ⟨T,a,none⟩ = some (.slice (some ⟨bu,ou,none⟩) ls.length ku) ∧ W.cell? ⟨bu,ou + i * 6,none⟩ = some (.int .i64 m.t.c) ∧ W.cell? ⟨bu,ou + i * 6 + 1,none⟩ = some (.int .i64 m.t.r) ∧ W.cell? ⟨bu,ou + i * 6 + 2,none⟩ = some (.int .i64 m.pa) ∧ W.cell? ⟨bu,ou + i * 6 + 3,none⟩ = some (.int .i64 m.ch) ∧ W.cell? ⟨bu,ou + i * 6 + 4,none⟩ = some (.string m.nm) ∧ W.cell? ⟨bu,ou + i * 6 + 5,none⟩ = some (.float .f64 m.rk) ∧ Below wi.heap.size wi W)
         (first | with_reducible assumption | with_reducible exact cS.out _ hBd | with_reducible exact cS.out _ hba.out)
         (first | (go_at_call 27;(with_reducible refine HI.out.mono ?_);rintro e wa ⟨⟨vt,nt,rfl,-,-⟩,ba⟩;have hba:=hid (hBd.trans (ba.mono hBd.size));clear ba))
        all_goals
         have hRa:=hid (hR9.out.below hba.out);have hTa:=hid (below_at hba.out hT9.out hlT9);have ga:=hid (below_at hba.out g9.out hlB9);have Ka:=hid (K9.out.trans (hba.out.mono K9.out.size));have hlTa:=lt_of_block hTa.out;have hlBa:=lt_of_block ga.out;obtain ⟨n0,n1,-⟩:=mov_at (Sl.below hMu.out Ka.out) rfl hm;have hlua:=Nat.lt_of_lt_of_le hlu hba.out.size;have hS1:=(Below.refl wa.heap.size wa).drew
         haveI hne0:Nonempty (Held (Below wa.heap.size wa)):=⟨⟨_,hS1⟩⟩
         have cm0:∀ q':Held (Below wa.heap.size wa),q'.w.cell? ⟨bu,ou + i * 6,none⟩ = some (.int .i64 m.t.c):=fun q' => (q'.h.cell (p:=⟨bu,ou + i * 6,none⟩) hlua).trans n0
         have cm1:∀ q':Held (Below wa.heap.size wa),q'.w.cell? ⟨bu,ou + i * 6 + 1,none⟩ = some (.int .i64 m.t.r):=fun q' => (q'.h.cell (p:=⟨bu,ou + i * 6 + 1,none⟩) hlua).trans n1
         have cf1:∀ q':Held (Below wa.heap.size wa),q'.w.cell? ⟨B6,1,none⟩ = some (.int .i64 rx.fl.c):=fun q' => cell_at (below_at q'.h ga.out hlBa) 1
         have cf2:∀ q':Held (Below wa.heap.size wa),q'.w.cell? ⟨B6,2,none⟩ = some (.int .i64 rx.fl.r):=fun q' => cell_at (below_at q'.h ga.out hlBa) 2
         have cf3:∀ q':Held (Below wa.heap.size wa),q'.w.cell? ⟨T,a,none⟩ = some (.slice (some ⟨bu,ou,none⟩) ls.length ku):=fun q' => (cell_at (below_at q'.h hTa.out hlTa) a).trans hut.out
         have HBef:=hid (fun q':Held (Below wa.heap.size wa) => (by have h:=held_calls ((Fl.rbefore_any rx.fl.c rx.fl.r m.t.c m.t.r q'.w).mono fun e w' (c:_ ∧ Below q'.w.heap.size q'.w w') => And.intro c.1 (q'.h.trans (c.2.mono q'.h.size)));rw [ahead_bef,hqb] at h;exact h:Calls Tryz.prog 20 #[.agg #[.int .i64 rx.fl.c,.int .i64 rx.fl.r],.agg #[.int .i64 m.t.c,.int .i64 m.t.r]] q'.w fun e w' => e = .returned (.bool qb) ∧ ∃ q'':Held (Below wa.heap.size wa),w' = q''.w));clear n0 n1 hR9 hT9 g9 K9 hba cS HI y0 hBd hqb;go_wp2_with fail
         refine wp_region_class (Below wa.heap.size wa) (by kernel_rfl) (by kernel_rfl) hS1 ?_
         repeat (go_big_quiet_step ((go_at_call 20;with_reducible exact HBef.out _)))
         refine wpQuiet_nil ?_
         intro Wq hw';obtain ⟨⟨Wz,hq⟩,hw''⟩:=hw';subst hw'';have hRb:=hid (hRa.out.below hq);have hTb:=hid (below_at hq hTa.out hlTa);have gb:=hid (below_at hq ga.out hlBa);have Kb:=hid (Ka.out.trans (hq.mono Ka.out.size));clear hq hS1 hne0 cm0 cm1 cf1 cf2 cf3 HBef hRa hTa ga Ka
         cases qb
         all_goals
          go_wp2_with fail
          go_roundw
          case rel => exact ⟨i + 1,by go_num,by omega,hRb,hTb,gb,Kb⟩
          case measure => simp [intOf];omega
       ·obtain rfl:i = ls.length:=by omega
        have hge:¬ ((ls.length:Int) < (ls.length:Nat)):=by omega
        go_wp2_with fail
        go_roundw
        case rel => exact ⟨a + 1,by go_num,by omega,by omega,hR9⟩
        case measure => simp [intOf];omega
    ·obtain rfl:a = n + 1:=by omega
     have hge:¬ (((n + 1:Nat):Int) ≤ (n:Nat)):=by omega
     have hK8:=hid (hR.out.bel);go_wp2_with fail;refine (HWK.out _).mono ?_
     rintro e w6 ⟨rfl,k6⟩;have hf:=hid (hK8.out.trans (k6.mono hK8.out.size));clear k6;go_wp2_with fail;go_ret;exact ⟨rfl,hf.out⟩
theorem marks_walk (n:Int) (v:Value) (l:List Dd) (w:World) (hS:Mem.Dds w v l) (hr:∀ z ∈ l,z.rk < 2 * Fl.S) (hl:l.length ≤ maxLen) :
  Calls Tryz.prog 5 #[.int .i64 n,v] w fun e w' => e = .returned (.bool true) ∧ Below w.heap.size w w':=by
 by_cases hm:short_anyD l 30 = true ∧ (1 ≤ n ∧ n ≤ 8)
 ·obtain ⟨m,rfl⟩:∃ m:Nat,n = (m:Int):=⟨n.toNat,by omega⟩
  exact marks_main m v l w hS hm.1 hr hl (by omega) (by omega)
 ·have HSH:=hid (short_any v l 30 w hS (by omega) (by unfold maxLen at hl;omega))
  have HWK:=hid works_any;obtain ⟨s1,s2,rfl⟩:=hS.len;obtain ⟨c1,hc1⟩:∃ c,short_anyD l 30 = c:=⟨_,rfl⟩;rw [hc1] at hm HSH
  have hm:c1 = false ∨ (c1 = true ∧ n < 1) ∨ (c1 = true ∧ ¬ n < 1 ∧ 8 < n):=by
   cases c1 with
   | false => exact .inl rfl
   | true =>
    simp only [true_and,not_and] at hm
    by_cases hn:n < 1
    ·exact .inr (.inl ⟨rfl,hn⟩)
    ·exact .inr (.inr ⟨rfl,hn,by omega⟩)
  clear hS hr hl hc1
  rcases hm with h | ⟨h,h1⟩ | ⟨h,h0,h1⟩
  all_goals
   subst h;go_enter Tryz.func5,Tryz.ntmps5;go_wp2_with fail;refine HSH.out.mono ?_
   rintro e w1 ⟨rfl,k1⟩;replace k1:=hid k1;go_wp2_with fail;refine (HWK.out _).mono ?_
   rintro e w6 ⟨rfl,k6⟩;have hf:=hid (k1.out.trans (k6.mono k1.out.size));clear k6;go_wp2_with fail;go_ret;exact ⟨rfl,hf.out⟩
open Go.ChangeShapes Go.WideShapes Go.ChangeAt in
theorem marks_ok {H:Type} {enc:TypeId × Value → H} {d1:DataW H} {p1:List MemPlace} (W:World) (b:Nat) (v0 v1:Value) (o0:Value.okWide Tryz.prog W .any b 3 v0) (o1:Value.okWide Tryz.prog W .any b 22 v1) (h1:DataW.Trod enc Tryz.prog W 0 (fun _ => true) true 22 v1 d1 p1) :
  Calls Tryz.prog 5 #[v0,v1] W fun e w' => e = .returned (.bool true) ∧ Below W.heap.size W w':=by
 obtain ⟨n,rfl,-,-⟩:=Opened.ok_int Tryz.underlying3 o0;obtain ⟨l1,hS1,hr1,hl1⟩:=dds_of o1 h1;exact marks_walk n v1 l1 W hS1 hr1 hl1
end Tw
end
end Go.Proofs.YtnlijlknjhkoaaaGreat
