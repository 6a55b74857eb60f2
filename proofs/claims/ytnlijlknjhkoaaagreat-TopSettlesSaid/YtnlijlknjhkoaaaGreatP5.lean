/-
  PART 5 of what law TopSettles leans on: plain lemmas and walks, of which each says its own condition.
-/
import Derived.Test.YtnlijlknjhkoaaaGreatP4
open Go.Lib (hid)
set_option maxRecDepth 100000
set_option maxHeartbeats 16000000
namespace Go.Proofs.YtnlijlknjhkoaaaGreat
section
open Go.RowKit Go.Shelf
attribute [local go_sem] Fl.run_store_float
namespace Pl
open Mem Tp Tr Mo Fo Sn Og St
def mvOf (t:Tm) (d:Dd):Mv:=⟨t,d.pa,d.ch,d.nm,d.rk⟩
def localR (r:Rp) (d:Dd) (pool:List Mv):Rp × List Mv × Int:=
 match nextM r.mks r.fl d.who with
 | none => (r,pool,10)
 | some t => if (addR r (mvOf t d)).2.2 = 0 then ((addR r (mvOf t d)).1,pool ++ [mvOf t d],0) else ((addR r (mvOf t d)).1,pool,(addR r (mvOf t d)).2.2)
structure Did (w w':World) (base p b:Nat) (vp:Value) (xs:List X3) (x y:X3) (vp':Value) (pool':List Mv):Prop where
 pw:PW w' base p b vp' xs pool'
 ry:RepX w' y
 bl:∀ k,blocks y k → blocks x k ∨ (w.heap.size ≤ k ∧ vp'.ownBlock ≠ some k)
 be:Below base w w'
 kp:Kept (fun k => k = p ∨ vp.ownBlock = some k) w w'
 nv:∀ k,vp'.ownBlock = some k → vp.ownBlock = some k ∨ w.heap.size ≤ k
theorem Did.of {w w':World} {base p b:Nat} {xs:List X3} {x y:X3} {vp:Value} {pool:List Mv} (hP:PW w base p b vp xs pool) (h:BackX w w' x y) (hb:Below w.heap.size w w'):Did w w' base p b vp xs x y vp pool:=
 ⟨hP.below hb,h.1,fun k hk => (h.2 k hk).imp id (fun q => ⟨q,fun e => by have:=(hP.own.lt k e).2;omega⟩),hb.mono (by have:=lt_of_block hP.hp;have:=hP.bp;omega),Kept.of_below hb,fun _ e => .inl e⟩
theorem dvC_mk2 {w W0 W1 w2 w4:World} {x:X3} {vb vl vm:Value} {q:Rp} {B:Nat} (h0:Below w.heap.size w W1) (hs:w.heap.size + 3 ≤ W1.heap.size) (h2:Below W1.heap.size W1 w2) (hB:Back W1 w2 x.1.b x.1.l x.1.m vb vl vm q) (hlt:∀ k,blocks x k → k < w.heap.size) (_h:W0 = W1) (hBB:B = w.heap.size)
  (g:w4.heap[B]? = some (.cells #[vb,.int .i64 q.fl.c,.int .i64 q.fl.r,vl,vm] 34 (0,0))) (z:w2.heap[w.heap.size + 1 + 1]? = some (.cells #[.slice none 0 0,.int .i64 0,.int .i64 0,.slice none 0 0,.slice none 0 0] 34 (0,0)))
  (hB4:∀ B' (w0:World),Below B' w0 w2 → B' ≤ B → Below B' w0 w4) (hO4:∀ k,k ≠ B → w4.heap[k]? = w2.heap[k]?):DvC w w4 x (⟨vb,vl,vm⟩,q):=by
 subst hBB;have t2:=h2.size;have t4:=(hB4 0 _ (Below.refl 0 _) (Nat.zero_le _)).size;have hX:=BackX.of (w:=w) (x:=x) hB (by omega)
 have hbx:∀ k,blocks (⟨vb,vl,vm⟩,q) k → k < w.heap.size ∨ W1.heap.size ≤ k:=by
  rintro k (e | e | e)
  ·rcases hB.nb _ e with h | h
   ·exact .inl (hlt _ (.inl h))
   ·exact .inr h.1
  ·rcases hB.nl _ e with h | h
   ·exact .inl (hlt _ (.inr (.inl h)))
   ·exact .inr h.1
  ·rcases hB.nm _ e with h | h
   ·exact .inl (hlt _ (.inr (.inr h)))
   ·exact .inr h.1
 have hne:∀ k,blocks (⟨vb,vl,vm⟩,q) k → k ≠ w.heap.size ∧ k ≠ w.heap.size + 1 + 1:=fun k hk => by rcases hbx k hk with h | h <;> omega
 exact ⟨g,(hO4 _ (by omega)).trans z,⟨hX.1.same t4 (fun k e => hO4 k (hne k e).1),hX.2⟩,hne,hB4 _ _ (h0.trans (h2.mono (by omega))) (Nat.le_refl _),by omega⟩
theorem own_other {w w':World} {base:Nat} {e:TypeId} {k:Nat} {v:Value} {n:Nat} {cs:List Value} (h:w.ownsRow base e k v n cs) (hs:∀ j,v.ownBlock = some j → w'.heap[j]? = w.heap[j]?):w'.ownsRow base e k v n cs:=by
 refine ⟨h.1,?_⟩
 rcases h.2 with h2 | ⟨g,cap,cur,ev,hg,hh,r⟩
 ·exact .inl h2
 ·exact .inr ⟨g,cap,cur,ev,hg,(hs g (by rw [ev];rfl)).trans hh,r⟩
theorem PW.other {W W':World} {base p b:Nat} {vp:Value} {xs:List X3} {pool:List Mv} (h:PW W base p b vp xs pool) {z:Nat} (hs:W.heap.size ≤ W'.heap.size) (ho:∀ k,k ≠ z → W'.heap[k]? = W.heap[k]?) (h1:p ≠ z) (h2:b ≠ z) (h3:vp.ownBlock ≠ some z) (h4:∀ x ∈ xs,¬ blocks x z):PW W' base p b vp xs pool:=
 ⟨(ho _ h1).trans h.hp,(ho _ h2).trans h.hb,h.pb,h.bp,h.bb,own_other h.own (fun j e => ho j (fun q => h3 (q ▸ e))),h.pp,fun x hx => (h.rep x hx).same hs (fun k hk => ho k (fun q => h4 x hx (q ▸ hk))),h.sep,h.n1,h.n8⟩
theorem pw_grow {W w5 W6:World} {base p b:Nat} {vp v5:Value} {xs:List X3} {pool:List Mv} {m:Mv} (h:PW W base p b vp xs pool) (hown:w5.ownsRow base 49 6 v5 (pool.length + 1) (pool.flatMap movC ++ movC m)) (hg:W.grownBy w5 vp.ownBlock) (hn:Near W vp v5)
  (hp6:W6.heap[p]? = some (.cells #[.slice (some ⟨b,0,none⟩) xs.length xs.length,v5] 89 (0,0))) (ho:∀ k,k ≠ p → W6.heap[k]? = w5.heap[k]?) (hs:w5.heap.size ≤ W6.heap.size):PW W6 base p b v5 xs (pool ++ [m]):=by
 have hlp:=lt_of_block h.hp;have hlb:=lt_of_block h.hb
 have hnew:∀ k,v5.ownBlock = some k → k ≠ p ∧ k ≠ b:=fun k e => by
  rcases hn k e with q | q
  ·exact h.pp k q
  ·omega
 have hk5:∀ x ∈ xs,∀ k,blocks x k → W6.heap[k]? = W.heap[k]?:=fun x hx k hk => by
  have h1:=h.sep x hx k hk;exact (ho k h1.1).trans (hg.block k ((h.rep x hx).lt hk) (fun e => h1.2.2 e.symm))
 refine ⟨hp6,(ho b (Ne.symm h.pb)).trans ((hg.block b hlb (fun e => (h.pp b e.symm).2 rfl)).trans h.hb),h.pb,h.bp,h.bb,?_,hnew,fun x hx => (h.rep x hx).same (Nat.le_trans hg.size hs) (hk5 x hx),fun x hx k hk => ?_,h.n1,h.n8⟩
 ·rw [List.length_append,List.length_singleton,flat_snoc]
  exact own_other hown (fun j e => ho j (hnew j e).1)
 ·have h1:=h.sep x hx k hk
  exact ⟨h1.1,h1.2.1,fun e => by
   rcases hn k e with q | q
   ·exact h1.2.2 q
   ·have:=(h.rep x hx).lt hk;omega⟩
theorem local_any {base p b:Nat} {vp:Value} {xs:List X3} {pool:List Mv} (x:X3) (d:Dd) (w:World) (hP:PW w base p b vp xs pool) (hx:x ∈ xs) (hW:WfR x.2) (hz:d.nm.size ≤ 100000) (hpl:pool.length ≤ 1000) :
  Calls Tryz.prog 50 #[.pointer (some ⟨p,0,none⟩),rpV x,dedV d] w fun e w' => ∃ (y:X3) (vp':Value),e = .returned (.tuple #[rpV y,.int .i64 (localR x.2 d pool).2.2]) ∧ y.2 = (localR x.2 d pool).1 ∧ Did w w' base p b vp xs x y vp' (localR x.2 d pool).2.1:=by
 have hX:=hP.rep x hx;have hsep:=hP.sep x hx;obtain ⟨W0,hW0⟩:∃ W0,lay w [rpO x,dedO d,rep0] = W0:=⟨_,rfl⟩
 have hb0:Below w.heap.size w W0:=by rw [← hW0];exact lay_below _ _
 have hs0:W0.heap.size = w.heap.size + 3:=by rw [← hW0];exact lay_size _ _
 have g0:W0.heap[w.heap.size]? = some (rpO x):=by rw [← hW0];exact lay_at _ w 0 _ rfl
 have g1:W0.heap[w.heap.size + 1]? = some (dedO d):=by rw [← hW0];exact lay_at _ w 1 _ rfl
 have g2:W0.heap[w.heap.size + 1 + 1]? = some rep0:=by rw [← hW0];exact lay_at _ w 2 _ rfl
 have hX0:RepX W0 x:=RepW.below hX hb0;have HN:=hid (Mr.next_any x.1.m x.2.mks x.2.fl d.who W0 hX0.m (by have:=hW.mlen;omega));have HA:=hid (fun W m (h:Below W0.heap.size W0 W) hz => Fo.add_any x.1.b x.1.l x.1.m x.2 m W (RepW.below hX0 h) hW hz);obtain ⟨ab,kb,eb⟩:=hX.b.len;obtain ⟨al,kl,el⟩:=hX.l.len;obtain ⟨am,km,em⟩:=hX.m.len;obtain ⟨⟨vb,vl,vm⟩,r⟩:=x;simp only at eb el em;subst eb el em;simp only [lay,List.foldl_cons,List.foldl_nil,rpO,repO,dedO,rep0] at hW0 g0 g1 g2;replace hb0:=hid hb0;replace hW0:=hid hW0;replace g0:=hid g0;replace g1:=hid g1
 replace g2:=hid g2;replace hsep:=hid hsep;replace hx:=hid hx;replace hP:=hid hP;replace hX0:=hid hX0;clear hW hX;unfold rpV repV dedV;unfold tmV at HN;go_enter Tryz.func50,Tryz.ntmps50;go_wp2_with fail;rw [hW0.out];refine HN.out.mono ?_
 rintro e w1 ⟨rfl,b1⟩;have s1:=b1.size;have G0:=below_at b1 g0.out (by omega);have G1:=below_at b1 g1.out (by omega);have G2:=below_at b1 g2.out (by omega);obtain ⟨o,ho⟩:∃ o,nextM r.mks r.fl d.who = o:=⟨_,rfl⟩;rw [ho]
 have ones:Hid (∀ v ∈ [Value.slice ab r.base.length kb,.int .i64 r.fl.c,.int .i64 r.fl.r,.slice al r.log.length kl,.slice am r.mks.length km],v.oneCell' = true):=hid (by
  intro v hv;simp only [List.mem_cons,List.not_mem_nil,or_false] at hv
  rcases hv with rfl | rfl | rfl | rfl | rfl <;> rfl)
 have hb1:=hb0.out.trans (b1.mono (by omega))
 cases o with
 | none =>
  have hL:Hid (localR r d pool = (r,pool,10)):=hid (by unfold localR;rw [ho]);have hb2:=hb1.alloc (by omega) (.cells #[.int .i64 0,.int .i64 0] 24);have G02:=alloc_at (.cells #[.int .i64 0,.int .i64 0] 24) G0;have G22:=alloc_at (.cells #[.int .i64 0,.int .i64 0] 24) G2;have r0:=(show (w1.alloc (.cells #[.int .i64 0,.int .i64 0] 24)).cell? ⟨w.heap.size,0,none⟩ = some _ from cell_at G02 0);have r1:=(show (w1.alloc (.cells #[.int .i64 0,.int .i64 0] 24)).cell? ⟨w.heap.size,1,none⟩ = some _ from cell_at G02 1)
  have r2:=(show (w1.alloc (.cells #[.int .i64 0,.int .i64 0] 24)).cell? ⟨w.heap.size,2,none⟩ = some _ from cell_at G02 2);have r3:=(show (w1.alloc (.cells #[.int .i64 0,.int .i64 0] 24)).cell? ⟨w.heap.size,3,none⟩ = some _ from cell_at G02 3);have r4:=(show (w1.alloc (.cells #[.int .i64 0,.int .i64 0] 24)).cell? ⟨w.heap.size,4,none⟩ = some _ from cell_at G02 4);replace hb2:=hid hb2;clear HA HN G0 G1 G2 G02 b1 hb1;unfold Mr.nextV tmV;simp only
  go_wp2_with (refine wpList_store_splice (by rfl) 34 _ _ (by rfl) (w.heap.size + 1 + 1) 0 [.slice ab r.base.length kb,.int .i64 r.fl.c,.int .i64 r.fl.r,.slice al r.log.length kl,.slice am r.mks.length km] (by rfl) (by rfl) 34 [.slice none 0 0,.int .i64 0,.int .i64 0,.slice none 0 0,.slice none 0 0] G22 (info_rep.trans rfl) (by simp) ones.out ?_;intro w4 hg4 hB4 hO4)
  have hs9:=(hB4.out 0 _ (Below.refl 0 _) (Nat.zero_le _)).size;have hb9:=hB4.out _ _ hb2.out (by omega);refine bodyPost_ret (rep_resultsAt Tryz.f50 6 7 rfl _ w4 (w.heap.size + 1 + 1) r.fl _ _ _ rfl (hg4.out.trans rfl)) rfl ?_
  refine ⟨(⟨.slice ab r.base.length kb,.slice al r.log.length kl,.slice am r.mks.length km⟩,r),vp,by rw [hL.out];rfl,by rw [hL.out],?_⟩
  rw [hL.out];exact Did.of hP.out ⟨RepW.below (hP.out.rep _ hx.out) hb9,fun k hk => .inl hk⟩ hb9
 | some t =>
  obtain ⟨q,hq⟩:∃ q,addR r (mvOf t d) = q:=⟨_,rfl⟩;have hL:Hid (localR r d pool = if q.2.2 = 0 then (q.1,pool ++ [mvOf t d],0) else (q.1,pool,q.2.2)):=hid (by unfold localR;simp only [ho,hq]);have hb2:=(hb1.alloc (by omega) (.cells #[.int .i64 t.c,.int .i64 t.r] 24)).alloc (by simp;omega) (.cells #[.int .i64 t.c,.int .i64 t.r,.int .i64 d.pa,.int .i64 d.ch,.string d.nm,.float .f64 d.rk] 49)
  have hb2':=(b1.alloc s1 (.cells #[.int .i64 t.c,.int .i64 t.r] 24)).alloc (by simp;omega) (.cells #[.int .i64 t.c,.int .i64 t.r,.int .i64 d.pa,.int .i64 d.ch,.string d.nm,.float .f64 d.rk] 49);have HA2:=HA.out _ (mvOf t d) hb2' hz;rw [hq] at HA2;have J0:=alloc_at (.cells #[.int .i64 t.c,.int .i64 t.r,.int .i64 d.pa,.int .i64 d.ch,.string d.nm,.float .f64 d.rk] 49) (alloc_at (.cells #[.int .i64 t.c,.int .i64 t.r] 24) G0)
  have J2:=alloc_at (.cells #[.int .i64 t.c,.int .i64 t.r,.int .i64 d.pa,.int .i64 d.ch,.string d.nm,.float .f64 d.rk] 49) (alloc_at (.cells #[.int .i64 t.c,.int .i64 t.r] 24) G2);have JM:=alloc_new (w1.alloc (.cells #[.int .i64 t.c,.int .i64 t.r] 24)) (.cells #[.int .i64 t.c,.int .i64 t.r,.int .i64 d.pa,.int .i64 d.ch,.string d.nm,.float .f64 d.rk] 49);obtain ⟨W2,hW2⟩:∃ W2,(w1.alloc (.cells #[.int .i64 t.c,.int .i64 t.r] 24)).alloc (.cells #[.int .i64 t.c,.int .i64 t.r,.int .i64 d.pa,.int .i64 d.ch,.string d.nm,.float .f64 d.rk] 49) = W2:=⟨_,rfl⟩
  have hs2:W2.heap.size = w1.heap.size + 1 + 1:=by rw [← hW2];simp
  simp only [World.size_alloc] at JM;rw [hW2] at hb2 hb2' HA2 J0 J2 JM;have E1:=alloc_at (.cells #[.int .i64 t.c,.int .i64 t.r] 24) G1;have r0:=(show (w1.alloc (.cells #[.int .i64 t.c,.int .i64 t.r] 24)).cell? ⟨w.heap.size + 1,4,none⟩ = some _ from cell_at E1 4);have r1:=(show (w1.alloc (.cells #[.int .i64 t.c,.int .i64 t.r] 24)).cell? ⟨w.heap.size + 1,5,none⟩ = some _ from cell_at E1 5);have r2:=(show (w1.alloc (.cells #[.int .i64 t.c,.int .i64 t.r] 24)).cell? ⟨w.heap.size + 1,6,none⟩ = some _ from cell_at E1 6)
  have r3:=(show (w1.alloc (.cells #[.int .i64 t.c,.int .i64 t.r] 24)).cell? ⟨w.heap.size + 1,7,none⟩ = some _ from cell_at E1 7);replace hW2:=hid hW2;have v0:=(show W2.cell? ⟨w.heap.size,0,none⟩ = some _ from cell_at J0 0);have v1:=(show W2.cell? ⟨w.heap.size,1,none⟩ = some _ from cell_at J0 1);have v2:=(show W2.cell? ⟨w.heap.size,2,none⟩ = some _ from cell_at J0 2);have v3:=(show W2.cell? ⟨w.heap.size,3,none⟩ = some _ from cell_at J0 3);have v4:=(show W2.cell? ⟨w.heap.size,4,none⟩ = some _ from cell_at J0 4);rw [← hW2.out] at v0 v1 v2 v3 v4
  replace J0:=hid J0;replace J2:=hid J2;replace JM:=hid JM;replace HA2:=hid HA2;replace hb2:=hid hb2;replace hb2':=hid hb2';replace hq:=hid hq;replace hL:=hid hL;replace ho:=hid ho;clear HA HN G0 G1 G2 b1 hb1 E1;have hlt:=hid (fun k hk => (hP.out.rep _ hx.out).lt (k:=k) hk);unfold Mr.nextV tmV;simp only
  go_upto_region 5 with fail
  go_cut [12] (fun v12 wx => v12 = .int .i64 q.2.2 ∧ ∃ y:X3,y.2 = q.1 ∧ Hid (DvC w wx (⟨.slice ab r.base.length kb,.slice al r.log.length kl,.slice am r.mks.length km⟩,r) y) ∧ Hid (wx.heap[w1.heap.size + 1]? = some (.cells #[.int .i64 t.c,.int .i64 t.r,.int .i64 d.pa,.int .i64 d.ch,.string d.nm,.float .f64 d.rk] 49 (0,0))))
  case first =>
   go_wp2_with fail;rw [hW2.out];refine HA2.out.mono ?_
   rintro e w3 ⟨⟨vb',vl',vm',rfl,hB⟩,b3⟩;have s3:=b3.size;have k0:=below_at b3 J0.out (by omega);have k2:=below_at b3 J2.out (by omega);have kM:=below_at b3 JM.out (by omega);obtain ⟨ab',kb',eb⟩:=hB.r.b.len;subst eb;obtain ⟨al',kl',el⟩:=hB.r.l.len;subst el;obtain ⟨am',km',em⟩:=hB.r.m.len;subst em
   have one2:Hid (∀ v ∈ [Value.slice ab' q.1.base.length kb',.int .i64 q.1.fl.c,.int .i64 q.1.fl.r,.slice al' q.1.log.length kl',.slice am' q.1.mks.length km'],v.oneCell' = true):=hid (by
    intro v hv;simp only [List.mem_cons,List.not_mem_nil,or_false] at hv
    rcases hv with rfl | rfl | rfl | rfl | rfl <;> rfl)
   replace hB:=hid hB;replace b3:=hid b3;replace k2:=hid k2;replace kM:=hid kM;unfold repV;clear r0 r1 r2 r3 v0 v1 v2 v3 v4
   go_wp2_with (refine wpList_store_splice (by rfl) 34 _ _ (by rfl) w.heap.size 0 [.slice ab' q.1.base.length kb',.int .i64 q.1.fl.c,.int .i64 q.1.fl.r,.slice al' q.1.log.length kl',.slice am' q.1.mks.length km'] (by rfl) (by rfl) 34 [.slice ab r.base.length kb,.int .i64 r.fl.c,.int .i64 r.fl.r,.slice al r.log.length kl,.slice am r.mks.length km] k0 (info_rep.trans rfl) (by simp) one2.out ?_;intro w4 hg4 hB4 hO4)
   go_meet
   exact ⟨rfl,_,rfl,hid (dvC_mk2 hb2.out (by omega) b3.out hB.out hlt.out rfl rfl (hg4.out.trans rfl) k2.out hB4.out hO4.out),hid ((hO4.out _ (by omega)).trans kM.out)⟩
  case rest =>
   obtain ⟨h9,y,hy,hC,hM⟩:=hcut;subst h9;obtain ⟨⟨yb,yl,ym⟩,yr⟩:=y;simp only at hy;subst hy;obtain ⟨ab',kb',eb⟩:=hC.out.k.1.b.len;simp only at eb;subst eb;obtain ⟨al',kl',el⟩:=hC.out.k.1.l.len;simp only at el;subst el;obtain ⟨am',km',em⟩:=hC.out.k.1.m.len;simp only at em;subst em;have k9:=hC.out.c;have z9:=hC.out.z;simp only at k9;have v0:=(show wc.cell? ⟨w.heap.size,0,none⟩ = some _ from cell_at k9 0);have v1:=(show wc.cell? ⟨w.heap.size,1,none⟩ = some _ from cell_at k9 1);have v2:=(show wc.cell? ⟨w.heap.size,2,none⟩ = some _ from cell_at k9 2)
   have v3:=(show wc.cell? ⟨w.heap.size,3,none⟩ = some _ from cell_at k9 3);have v4:=(show wc.cell? ⟨w.heap.size,4,none⟩ = some _ from cell_at k9 4)
   have one2:Hid (∀ v ∈ [Value.slice ab' q.1.base.length kb',.int .i64 q.1.fl.c,.int .i64 q.1.fl.r,.slice al' q.1.log.length kl',.slice am' q.1.mks.length km'],v.oneCell' = true):=hid (by
    intro v hv;simp only [List.mem_cons,List.not_mem_nil,or_false] at hv
    rcases hv with rfl | rfl | rfl | rfl | rfl <;> rfl)
   have hPc:=hP.out.below hC.out.b;replace hPc:=hid hPc
   by_cases hq0:q.2.2 = 0
   ·have h0:(q.2.2 == 0) = true:=by rw [hq0];rfl
    replace hq0:=hid hq0;obtain ⟨i0,hi,hz0,hz1,hz2⟩:=info_parts infoMov;obtain ⟨ap,kp,ep⟩:=(own_sl hPc.out.own).len;subst ep;have p1:=(show wc.cell? ⟨p,1,none⟩ = some (.slice ap pool.length kp) from cell_at hPc.out.hp 1);have m0:=(show wc.cell? ⟨w1.heap.size + 1,0,none⟩ = some _ from cell_at hM.out 0);have m1:=(show wc.cell? ⟨w1.heap.size + 1,1,none⟩ = some _ from cell_at hM.out 1);have m2:=(show wc.cell? ⟨w1.heap.size + 1,2,none⟩ = some _ from cell_at hM.out 2);have m3:=(show wc.cell? ⟨w1.heap.size + 1,3,none⟩ = some _ from cell_at hM.out 3)
    have m4:=(show wc.cell? ⟨w1.heap.size + 1,4,none⟩ = some _ from cell_at hM.out 4);have m5:=(show wc.cell? ⟨w1.heap.size + 1,5,none⟩ = some _ from cell_at hM.out 5);have on6:∀ u ∈ [Value.int .i64 t.c,.int .i64 t.r,.int .i64 d.pa,.int .i64 d.ch,.string d.nm,.float .f64 d.rk],u.oneCell' = true:=movC_one (mvOf t d);have hlp:=lt_of_block hPc.out.hp;have hbp:=hPc.out.bp;replace on6:=hid on6;clear HA2 J0 J2 JM r0 r1 r2 r3 v0 v1 v2 v3 v4;go_wp2_with fail
    have cS:=hid (fun (W:World) (h:Below wc.heap.size wc W) => (⟨(h.cell (p:=⟨p,1,none⟩) hlp).trans p1,(h.cell (p:=⟨w1.heap.size + 1,0,none⟩) (lt_of_block hM.out)).trans m0,(h.cell (p:=⟨w1.heap.size + 1,1,none⟩) (lt_of_block hM.out)).trans m1,(h.cell (p:=⟨w1.heap.size + 1,2,none⟩) (lt_of_block hM.out)).trans m2,(h.cell (p:=⟨w1.heap.size + 1,3,none⟩) (lt_of_block hM.out)).trans m3,(h.cell (p:=⟨w1.heap.size + 1,4,none⟩) (lt_of_block hM.out)).trans m4,(h.cell (p:=⟨w1.heap.size + 1,5,none⟩) (lt_of_block hM.out)).trans m5⟩:(W.cell? ⟨p,1,none⟩ = some (.slice ap pool.length kp) ∧ W.cell? ⟨w1.heap.size + 1,0,none⟩ = some (.int .i64 t.c) ∧ W.cell? ⟨w1.heap.size + 1,1,none⟩ = some (.int .i64 t.r) ∧ W.cell? ⟨w1.heap.size + 1,2,none⟩ = some (.int .i64 d.pa) ∧ W.cell? ⟨w1.heap.size + 1,3,none⟩ = some (.int .i64 d.ch) ∧ W.cell? ⟨w1.heap.size + 1,4,none⟩ = some (.string d.nm) ∧ W.cell? ⟨w1.heap.size + 1,5,none⟩ = some (.float .f64 d.rk))))
    go_region_law ((refine step_append_near (by rfl) (.tmp 49) (.tmp 51) 25 (by rfl) base 49 i0 (.agg #[.int .i64 0,.int .i64 0,.int .i64 0,.int .i64 0,.string ByteArray.empty,.float .f64 0]) 6 56 Tryz.underlying25 hi hz0 hz1 hz2 rfl (by decide) _ pool.length (pool.flatMap movC) (by rfl) (World.ownsRow.alloc hPc.out.own _) wc.heap.size 1 1 [Value.int .i64 t.c,.int .i64 t.r,.int .i64 d.pa,.int .i64 d.ch,.string d.nm,.float .f64 d.rk] (by rfl) rfl (alloc_new wc _) on6.out (by unfold maxLen;omega) (by omega) (by simp;omega) ?_;intro v5 w5 hown hgrow hnear;obtain ⟨a5,k5,e5⟩:=(own_sl hown.out).len;subst e5;have hp5:=fam_other hgrow.out (alloc_at _ hPc.out.hp) (fun e => (hPc.out.pp _ e).1 rfl);have x1:=(show w5.cell? ⟨p,1,none⟩ = some _ from cell_at hp5 1);have f1:w5.frozen? ⟨p,1,none⟩ = false:=free_at hp5 1;have hm5:=fam_other hgrow.out (alloc_at _ hM.out) (fun e => by have:=(hP.out.own.lt _ e).2;omega);have y0:=(show w5.cell? ⟨w1.heap.size + 1,0,none⟩ = some _ from cell_at hm5 0);have y1:=(show w5.cell? ⟨w1.heap.size + 1,1,none⟩ = some _ from cell_at hm5 1);have y2:=(show w5.cell? ⟨w1.heap.size + 1,2,none⟩ = some _ from cell_at hm5 2);have y3:=(show w5.cell? ⟨w1.heap.size + 1,3,none⟩ = some _ from cell_at hm5 3);have y4:=(show w5.cell? ⟨w1.heap.size + 1,4,none⟩ = some _ from cell_at hm5 4);have y5:=(show w5.cell? ⟨w1.heap.size + 1,5,none⟩ = some _ from cell_at hm5 5);replace hm5:=hid hm5;replace hp5:=hid hp5))
    all_goals
     have hgr:=hgrow.out
     have hne0:(Value.slice ap pool.length kp).ownBlock ≠ some w.heap.size:=fun e => by have:=(hP.out.own.lt _ e).2;omega
     have hne2:(Value.slice ap pool.length kp).ownBlock ≠ some (w.heap.size + 1 + 1):=fun e => by have:=(hP.out.own.lt _ e).2;omega
     have hlw:=lt_of_block hP.out.hp;have hlb:=lt_of_block hP.out.hb;have q0:=fam_other hgr (alloc_at _ k9) hne0;have q2:=fam_other hgr (alloc_at _ z9) hne2;obtain ⟨w6,hw6⟩:∃ w6,w5.setCell ⟨p,1,none⟩ (.slice a5 (pool.length + 1) k5) = w6:=⟨_,rfl⟩
     have hoth:∀ k,k ≠ p → w6.heap[k]? = w5.heap[k]?:=fun k hk => by rw [← hw6];exact setCell_heap_other hk
     have hs6:w6.heap.size = w5.heap.size:=by rw [← hw6];simp [World.setCell]
     have hp6:=set_at hp5.out 1 (.slice a5 (pool.length + 1) k5);rw [hw6] at hp6 ⊢;have hP6:=hid (pw_grow (m:=mvOf t d) (hPc.out.below ((Below.refl _ _).alloc (Nat.le_refl _) _).drew) hown.out hgr hnear.out (hp6.trans rfl) hoth (by omega));have z6:=(hoth _ (by omega)).trans q2;have k6:=(hoth _ (by omega)).trans q0;have v0:=(show w6.cell? ⟨w.heap.size,0,none⟩ = some _ from cell_at k6 0);have v1:=(show w6.cell? ⟨w.heap.size,1,none⟩ = some _ from cell_at k6 1);have v2:=(show w6.cell? ⟨w.heap.size,2,none⟩ = some _ from cell_at k6 2)
     have v3:=(show w6.cell? ⟨w.heap.size,3,none⟩ = some _ from cell_at k6 3);have v4:=(show w6.cell? ⟨w.heap.size,4,none⟩ = some _ from cell_at k6 4)
     go_wp2_with (refine wpList_store_splice (by rfl) 34 _ _ (by rfl) (w.heap.size + 1 + 1) 0 [.slice ab' q.1.base.length kb',.int .i64 q.1.fl.c,.int .i64 q.1.fl.r,.slice al' q.1.log.length kl',.slice am' q.1.mks.length km'] (by rfl) (by rfl) 34 [.slice none 0 0,.int .i64 0,.int .i64 0,.slice none 0 0,.slice none 0 0] z6 (info_rep.trans rfl) (by simp) one2.out ?_;intro w7 hg7 hB7 hO7)
     refine bodyPost_ret (rep_resultsAt Tryz.f50 6 7 rfl _ w7 (w.heap.size + 1 + 1) q.1.fl _ _ _ rfl (hg7.out.trans rfl)) rfl ?_
     have hs7:=(hB7.out 0 _ (Below.refl 0 _) (Nat.zero_le _)).size;have hsw:=hgr.size;simp at hsw
     have hyk:∀ k,blocks (⟨.slice ab' q.1.base.length kb',.slice al' q.1.log.length kl',.slice am' q.1.mks.length km'⟩,q.1) k → k ≠ p ∧ (Value.slice ap pool.length kp).ownBlock ≠ some k:=fun k hk => by
      rcases hC.out.k.2 k hk with h | h
      ·exact ⟨(hsep.out k h).1,(hsep.out k h).2.2⟩
      ·exact ⟨by omega,fun e => by have:=(hP.out.own.lt _ e).2;omega⟩
     have hry:=hC.out.k.1.same (W':=w7) (by omega) (fun k hk => (hO7.out k (hC.out.f k hk).2).trans ((hoth k (hyk k hk).1).trans ((hgr.block k (by have:=hC.out.k.1.lt hk;simp;omega) (fun e => (hyk k hk).2 e.symm)).trans (((Below.refl wc.heap.size wc).alloc (Nat.le_refl _) _).block k (hC.out.k.1.lt hk)))))
     have hbe5:=((hC.out.b.mono (show base ≤ w.heap.size by omega)).alloc (by have:=hC.out.s;omega) (.cells #[.int .i64 t.c,.int .i64 t.r,.int .i64 d.pa,.int .i64 d.ch,.string d.nm,.float .f64 d.rk] 49)).drew.grown hgr (by have:=hC.out.s;simp;omega) (fun k e => (hP.out.own.lt _ e).1)
     have hbe6:Below base w w6:=by rw [← hw6];exact hbe5.setCell (p:=⟨p,1,none⟩) hbp _
     have hbe7:=hB7.out _ _ hbe6 (show base ≤ w.heap.size + 1 + 1 by omega);refine ⟨(⟨.slice ab' q.1.base.length kb',.slice al' q.1.log.length kl',.slice am' q.1.mks.length km'⟩,q.1),.slice a5 (pool.length + 1) k5,by rw [hL.out,if_pos hq0.out,hq0.out];rfl,by rw [hL.out,if_pos hq0.out],?_⟩
     rw [hL.out,if_pos hq0.out]
     refine ⟨hP6.out.other hs7 hO7.out (by omega) (by omega) (fun e => ?_) (fun x hx' hk => by have:=(hP.out.rep x hx').lt hk;omega),hry,fun k hk => ?_,hbe7,⟨hbe7.os,hbe7.tape,hbe7.output,hbe7.size,fun k hk ht => (hO7.out k (by omega)).trans ((hoth k (fun e => ht (.inl e))).trans ((hgr.block k (by have:=hC.out.s;simp;omega) (fun e => ht (.inr e.symm))).trans ((((Below.refl wc.heap.size wc).alloc (Nat.le_refl _) _).block k (by have:=hC.out.s;omega)).trans (hC.out.b.block k hk))))⟩,fun k e => (hnear.out k e).imp id (fun h => by have:=hC.out.s;simp at h;omega)⟩
     ·rcases hnear.out _ e with h | h
      ·exact hne2 h
      ·have:=hC.out.s;simp at h;omega
     ·rcases hC.out.k.2 k hk with h | h
      ·exact .inl h
      ·refine .inr ⟨h,fun e => ?_⟩
       rcases hnear.out _ e with g | g
       ·exact (hyk k hk).2 g
       ·have:=hC.out.k.1.lt hk;simp at g;omega
   ·have h0:(q.2.2 == 0) = false:=by rw [beq_eq_false_iff_ne];exact hq0
    replace hq0:=hid hq0;clear HA2 J0 J2 JM k9 r0 r1 r2 r3
    go_wp2_with (refine wpList_store_splice (by rfl) 34 _ _ (by rfl) (w.heap.size + 1 + 1) 0 [.slice ab' q.1.base.length kb',.int .i64 q.1.fl.c,.int .i64 q.1.fl.r,.slice al' q.1.log.length kl',.slice am' q.1.mks.length km'] (by rfl) (by rfl) 34 [.slice none 0 0,.int .i64 0,.int .i64 0,.slice none 0 0,.slice none 0 0] z9 (info_rep.trans rfl) (by simp) one2.out ?_;intro w4 hg4 hB4 hO4)
    have hs9:wc.heap.size ≤ w4.heap.size:=(hB4.out 0 _ (Below.refl 0 _) (Nat.zero_le _)).size;refine bodyPost_ret (rep_resultsAt Tryz.f50 6 7 rfl _ w4 (w.heap.size + 1 + 1) q.1.fl _ _ _ rfl (hg4.out.trans rfl)) rfl ?_
    refine ⟨(⟨.slice ab' q.1.base.length kb',.slice al' q.1.log.length kl',.slice am' q.1.mks.length km'⟩,q.1),vp,by rw [hL.out,if_neg hq0.out];rfl,by rw [hL.out,if_neg hq0.out],?_⟩
    rw [hL.out,if_neg hq0.out];exact Did.of hP.out ⟨hC.out.k.1.same hs9 (fun k e => hO4.out k (hC.out.f k e).2),hC.out.k.2⟩ (hB4.out _ _ hC.out.b (by omega))
end Pl
end
section
open Go.RowKit Go.Shelf
attribute [local go_sem] Fl.run_store_float
namespace Pl
open Mem Tp Tr Mo Fo Sn Og St
def StepR (r:Rp) (d:Dd) (pool:List Mv) (r':Rp) (pool':List Mv) (e:Int):Prop:=
 (d.kind = 1 ∧ (r',pool',e) = localR r d pool) ∨
 (d.kind = 2 ∧ pool' = pool ∧ ((d.at_ < 0 ∨ (pool.length:Int) ≤ d.at_) ∧ r' = r ∧ e = 1 ∨ ∃ (k:Nat) (m:Mv),pool[k]? = some m ∧ d.at_ = (k:Int) ∧ r' = (addR r m).1 ∧ e = (addR r m).2.2)) ∨
 (d.kind = 3 ∧ pool' = pool ∧ (r',e) = pruneR r ⟨d.at_,d.frm⟩) ∨
 (d.kind = 4 ∧ pool' = pool ∧ EqP r r' ∧ e = 0)
structure OkR (r:Rp):Prop where
 w:WfR r
 k:RkR r
 f:((allC r).flatMap Ck.oneL).length ≤ 90000
 z:(fileS r).size ≤ 10000
def DidC (base p b:Nat) (vp:Value) (xs:List X3) (pool:List Mv) (x:X3) (d:Dd) (w:World) (e:Ending) (w':World):Prop:=
 ∃ (y:X3) (vp':Value) (pool':List Mv) (c:Int),e = .returned (.tuple #[rpV y,.int .i64 c]) ∧ StepR x.2 d pool y.2 pool' c ∧ Did w w' base p b vp xs x y vp' pool'
theorem did_local {base p b:Nat} {vp:Value} {xs:List X3} {pool:List Mv} (x:X3) (d:Dd) (w:World) (hP:PW w base p b vp xs pool) (hx:x ∈ xs) (hW:OkR x.2) (hz:d.nm.size ≤ 100000) (hpl:pool.length ≤ 1000) (hk:d.kind = 1) :
  Calls Tryz.prog 50 #[.pointer (some ⟨p,0,none⟩),rpV x,dedV d] w (DidC base p b vp xs pool x d w):=by
 refine (local_any x d w hP hx hW.w hz hpl).mono ?_
 rintro e w' ⟨y,vp',rfl,hy,hD⟩;exact ⟨y,vp',_,_,rfl,.inl ⟨hk,by rw [hy]⟩,hD⟩
theorem did_deliver {base p b:Nat} {vp:Value} {xs:List X3} {pool:List Mv} (x:X3) (d:Dd) (w:World) (hP:PW w base p b vp xs pool) (hx:x ∈ xs) (hW:OkR x.2) (hpz:∀ m ∈ pool,m.nm.size ≤ 100000) (hk:d.kind = 2) :
  Calls Tryz.prog 51 #[.pointer (some ⟨p,0,none⟩),rpV x,dedV d] w (DidC base p b vp xs pool x d w):=by
 by_cases h:d.at_ < 0 ∨ (pool.length:Int) ≤ d.at_
 ·refine (deliver_not x d w hP (hP.rep x hx) h).mono ?_
  rintro e w' ⟨rfl,hb⟩;exact ⟨x,vp,pool,1,rfl,.inr (.inl ⟨hk,rfl,.inl ⟨h,rfl,rfl⟩⟩),Did.of hP ⟨RepW.below (hP.rep x hx) hb,fun k hk => .inl hk⟩ hb⟩
 ·obtain ⟨k,e⟩:∃ k:Nat,d.at_ = (k:Int):=⟨d.at_.toNat,by omega⟩
  have hm:=List.getElem?_eq_getElem (l:=pool) (i:=k) (by omega);refine (deliver_any x d k _ w hP (hP.rep x hx) hW.w hm e (hpz _ (List.mem_of_getElem? hm))).mono ?_
  rintro e' w' ⟨⟨y,rfl,hy,hB⟩,hb⟩;exact ⟨y,vp,pool,_,rfl,.inr (.inl ⟨hk,rfl,.inr ⟨k,_,hm,e,hy,rfl⟩⟩),Did.of hP hB hb⟩
theorem did_prune {base p b:Nat} {vp:Value} {xs:List X3} {pool:List Mv} (x:X3) (d:Dd) (w:World) (hP:PW w base p b vp xs pool) (hx:x ∈ xs) (hW:OkR x.2) (hk:d.kind = 3) :
  Calls Tryz.prog 52 #[.pointer (some ⟨p,0,none⟩),rpV x,dedV d] w (DidC base p b vp xs pool x d w):=by
 refine (prune_any _ x d w (hP.rep x hx) hW.w).mono ?_
 rintro e w' ⟨⟨y,rfl,hy,hB⟩,hb⟩;exact ⟨y,vp,pool,_,rfl,.inr (.inr (.inl ⟨hk,rfl,by rw [hy]⟩)),Did.of hP hB hb⟩
theorem did_reload {base p b:Nat} {vp:Value} {xs:List X3} {pool:List Mv} (x:X3) (d:Dd) (w:World) (hP:PW w base p b vp xs pool) (hx:x ∈ xs) (hW:OkR x.2) (hk:d.kind = 4) :
  Calls Tryz.prog 53 #[.pointer (some ⟨p,0,none⟩),rpV x,dedV d] w (DidC base p b vp xs pool x d w):=by
 refine (reload_any _ x d w (hP.rep x hx) hW.w hW.k hW.f hW.z).mono ?_
 rintro e w' ⟨⟨y,rfl,hy,hB⟩,hb⟩;exact ⟨y,vp,pool,_,rfl,.inr (.inr (.inr ⟨hk,rfl,hy,rfl⟩)),Did.of hP hB hb⟩
end Pl
end
section
open Go.RowKit Go.Shelf
namespace Iv
open Mem Tp Tr Mo Fo Sn Og St Pl Pk
structure InvR (j:Nat) (r:Rp):Prop where
 tree:TreeP r.base
 lrise:r.log.Pairwise (fun a b => bef a.t b.t = true)
 lone:∀ m ∈ r.log,oneM m = true
 mks:MksP r.mks
 bel:∀ m ∈ r.log,m.t.c ≤ getM r.mks m.t.r
 fl:r.fl = ⟨0,0⟩ ∨ knownT r.mks r.fl
 abv:∀ m ∈ r.log,bef r.fl m.t = true
 len:r.base.length + r.log.length ≤ j
 mlen:r.mks.length ≤ j
 rk:RkR r
 zero:r.fl = ⟨0,0⟩ → r.base = [] ∧ r.mks = ofM r.log
theorem InvR.mono {i j:Nat} {r:Rp} (h:InvR i r) (hij:i ≤ j):InvR j r:=
 ⟨h.tree,h.lrise,h.lone,h.mks,h.bel,h.fl,h.abv,Nat.le_trans h.len hij,Nat.le_trans h.mlen hij,h.rk,h.zero⟩
def r0:Rp:=⟨[],⟨0,0⟩,[],[]⟩
theorem inv_r0:InvR 0 r0:=
 ⟨treeP_nil,List.Pairwise.nil,fun _ h => by simp [r0] at h,mksP_nil,fun _ h => by simp [r0] at h,.inl rfl,fun _ h => by simp [r0] at h,Nat.le_refl _,Nat.le_refl _,⟨fun _ h => by simp [r0] at h,fun _ h => by simp [r0] at h⟩,fun _ => ⟨rfl,rfl⟩⟩
theorem InvR.wf {j:Nat} {r:Rp} (h:InvR j r) (hj:j ≤ 250):WfR r:=by
 refine ⟨h.tree.rise,h.tree.one,fun x _ => above_no h.tree.dep x.ch,h.lrise,h.lone,h.mks.ok,fun x _ => ?_,h.fl,?_,Nat.le_trans h.len hj,Nat.le_trans h.mlen hj⟩
 ·rw [ofM_ofV]
  exact get_ofV (fun m hm => (oneM_in (h.lone m hm)).1.1) (get_pos h.mks _) (fun m hm e => e ▸ h.bel m hm)
 ·unfold since
  rw [List.filter_eq_self];exact h.abv
theorem hasT_no {l:List Mv} {t:Tm} (h:hasT l t = false):∀ m ∈ l,m.t ≠ t:=fun m hm e => by
 unfold hasT at h;rw [List.any_eq_false] at h;exact h m hm (by simpa using e)
theorem hasT_yes {l:List Mv} {t:Tm}:hasT l t = true ↔ ∃ m ∈ l,m.t = t:=by
 unfold hasT;rw [List.any_eq_true]
 constructor
 ·rintro ⟨m,hm,e⟩;exact ⟨m,hm,by simpa using e⟩
 ·rintro ⟨m,hm,e⟩;exact ⟨m,hm,by simpa using e⟩
theorem mem_insM {l:List Mv} {m x:Mv} (h:x ∈ insM l m):x = m ∨ x ∈ l:=by
 unfold insM at h
 split at h
 ·exact .inr h
 ·exact mem_ins.1 h
theorem insM_rise {l:List Mv} {m:Mv} (h:l.Pairwise (fun a b => bef a.t b.t = true)):(insM l m).Pairwise (fun a b => bef a.t b.t = true):=by
 unfold insM
 split
 ·exact h
 ·rename_i hh
  have hn:=hasT_no (by simpa using hh);exact ins_sorted (R:=fun a b:Mv => bef a.t b.t = true) (p:=fun x => bef m.t x.t) h (fun y hy e => bef_total e (fun q => hn y hy q.symm)) (fun y _ e => e) (fun y z h1 h2 => bef_trans h2 h1)
theorem addR_yes {r:Rp} {m:Mv} (h1:oneM m = true) (h2:bef r.fl m.t = true) (h3:hasT r.log m.t = false):addR r m = (⟨r.base,r.fl,insM r.log m,raiseM r.mks m.t⟩,true,0):=by
 unfold addR;rw [if_neg (by rw [h1];simp),if_neg (by rw [h2];simp),if_neg (by rw [h3];simp)]
theorem addR_old {r:Rp} {m:Mv} (h1:oneM m = true) (h2:bef r.fl m.t = true) (h3:hasT r.log m.t = true):addR r m = (r,false,0):=by
 unfold addR;rw [if_neg (by rw [h1];simp),if_neg (by rw [h2];simp),if_pos h3]
theorem addR_stale {r:Rp} {m:Mv} (h1:oneM m = true) (h2:bef r.fl m.t = false):addR r m = (r,false,9):=by
 unfold addR;rw [if_neg (by rw [h1];simp),if_pos h2]
theorem addR_bad {r:Rp} {m:Mv} (h1:oneM m = false):addR r m = (r,false,1):=by
 unfold addR;rw [if_pos h1]
theorem addR_cases (r:Rp) (m:Mv):(oneM m = true ∧ bef r.fl m.t = true ∧ hasT r.log m.t = false) ∨ (addR r m).1 = r:=by
 by_cases h1:oneM m = true
 ·by_cases h2:bef r.fl m.t = true
  ·by_cases h3:hasT r.log m.t = true
   ·rw [addR_old h1 h2 h3];exact .inr rfl
   ·exact .inl ⟨h1,h2,by simpa using h3⟩
  ·rw [addR_stale h1 (by simpa using h2)];exact .inr rfl
 ·rw [addR_bad (by simpa using h1)];exact .inr rfl
theorem addR_one {r:Rp} {m:Mv} (h:(addR r m).2.2 = 0):oneM m = true ∧ bef r.fl m.t = true:=by
 by_cases h1:oneM m = true
 ·by_cases h2:bef r.fl m.t = true
  ·exact ⟨h1,h2⟩
  ·rw [addR_stale h1 (by simpa using h2)] at h;cases h
 ·rw [addR_bad (by simpa using h1)] at h;cases h
theorem inv_add {j:Nat} {r:Rp} (h:InvR j r) {m:Mv} (hk:m.rk < 2 * Fl.S):InvR (j + 1) (addR r m).1:=by
 rcases addR_cases r m with ⟨h1,h2,h3⟩ | e
 ·rw [addR_yes h1 h2 h3]
  have ht:=(oneM_in h1).1
  have hle:∀ x,getM r.mks x ≤ getM (raiseM r.mks m.t) x:=fun x => by
   rw [get_raise _ ht.1]
   by_cases q:x = m.t.r
   ·rw [if_pos q,q];omega
   ·rw [if_neg q];exact Int.le_refl _
  have hins:insM r.log m = ins (fun x => bef m.t x.t) m r.log:=by unfold insM;rw [if_neg (by rw [h3];simp)];rfl
  have hlen:=h.len;refine ⟨h.tree,insM_rise h.lrise,fun x hx => ?_,mksP_raise h.mks ht,fun x hx => ?_,h.fl.imp id (fun q => ⟨q.1,Int.le_trans q.2 (hle _)⟩),fun x hx => ?_,?_,Nat.le_trans (Mr.raise_len _ _) (Nat.succ_le_succ h.mlen),⟨h.rk.1,fun x hx => ?_⟩,fun q => ?_⟩
  ·rcases mem_insM hx with rfl | hx
   ·exact h1
   ·exact h.lone x hx
  ·rcases mem_insM hx with rfl | hx
   ·show _ ≤ getM (raiseM r.mks x.t) x.t.r
    rw [get_raise _ ht.1,if_pos rfl];omega
   ·exact Int.le_trans (h.bel x hx) (hle _)
  ·rcases mem_insM hx with rfl | hx
   ·exact h2
   ·exact h.abv x hx
  ·show r.base.length + (insM r.log m).length ≤ j + 1
   rw [hins,len_ins];omega
  ·rcases mem_insM hx with rfl | hx
   ·exact hk
   ·exact h.rk.2 x hx
  ·have:=h.zero q
   refine ⟨this.1,?_⟩
   show raiseM r.mks m.t = ofM (insM r.log m)
   rw [hins,ofM_ofV,ofV_ins ht mksP_nil (fun x hx => (oneM_in (h.lone x hx)).1),this.2]
   rfl
 ·rw [e];exact h.mono (Nat.le_succ j)
theorem rk_do {l:List Rw} {m:Mv} (h:TreeP l) (hl:∀ x ∈ l,x.rk < 2 * Fl.S) (hm:m.rk < 2 * Fl.S):∀ x ∈ doM l m,x.rk < 2 * Fl.S:=by
 unfold doM
 split
 ·exact hl
 ·intro x hx
  rcases mem_setR h.rise hx with rfl | ⟨hx,-⟩
  ·exact hm
  ·exact hl x hx
theorem rk_fold:∀ {l:List Rw} (ms:List Mv),TreeP l → (∀ m ∈ ms,oneM m = true) → (∀ x ∈ l,x.rk < 2 * Fl.S) → (∀ m ∈ ms,m.rk < 2 * Fl.S) → ∀ x ∈ foldM l ms,x.rk < 2 * Fl.S
 | _,[],_,_,h,_ => h
 | l,m :: ms,ht,ho,h,hm => by
  show ∀ x ∈ foldM (doM l m) ms,x.rk < 2 * Fl.S
  exact rk_fold ms (treeP_do ht (ho m List.mem_cons_self)) (fun x hx => ho x (List.mem_cons_of_mem _ hx)) (rk_do ht h (hm m List.mem_cons_self)) (fun x hx => hm x (List.mem_cons_of_mem _ hx))
def upto (r:Rp) (t:Tm):List Mv:=r.log.take (r.log.length - (since r.log t).length)
theorem since_split {t:Tm}:∀ {l:List Mv},l.Pairwise (fun a b => bef a.t b.t = true) → l.take (l.length - (since l t).length) ++ since l t = l ∧ ∀ m ∈ l.take (l.length - (since l t).length),bef t m.t = false
 | [],_ => ⟨rfl,fun _ h => by simp at h⟩
 | a :: l,h => by
  rw [List.pairwise_cons] at h
  by_cases e:bef t a.t = true
  ·have hs:since (a :: l) t = a :: l:=by
    unfold since;rw [List.filter_eq_self];intro x hx
    rcases List.mem_cons.1 hx with rfl | hx
    ·exact e
    ·exact bef_trans e (h.1 x hx)
   rw [hs,Nat.sub_self];exact ⟨rfl,fun _ h => by simp at h⟩
  ·have e':bef t a.t = false:=by simpa using e
   have hs:since (a :: l) t = since l t:=by
    unfold since;rw [List.filter_cons_of_neg (by rw [e'];simp)]
   have ih:=since_split (t:=t) h.2;have hle:=since_len l t;rw [hs,List.length_cons,show l.length + 1 - (since l t).length = (l.length - (since l t).length) + 1 from by omega,List.take_succ_cons];refine ⟨by rw [List.cons_append,ih.1],fun m hm => ?_⟩
   rcases List.mem_cons.1 hm with rfl | hm
   ·exact e'
   ·exact ih.2 m hm
theorem pruneR_no {r:Rp} {t:Tm} (h:¬ knownT r.mks t):pruneR r t = (r,1):=by unfold pruneR;rw [if_pos h]
theorem pruneR_old {r:Rp} {t:Tm} (h:knownT r.mks t) (hb:bef r.fl t = false):pruneR r t = (r,0):=by unfold pruneR;rw [if_neg (by simpa using h),if_pos hb]
theorem pruneR_yes {r:Rp} {t:Tm} (h:knownT r.mks t) (hb:bef r.fl t = true):pruneR r t = (⟨foldM r.base (upto r t),t,since r.log t,r.mks⟩,0):=by
 unfold pruneR;rw [if_neg (by simpa using h),if_neg (by rw [hb];simp)]
 rfl
theorem mem_since {l:List Mv} {t:Tm} {m:Mv} (h:m ∈ since l t):m ∈ l ∧ bef t m.t = true:=by
 unfold since at h;exact List.mem_filter.1 h
theorem inv_prune {j:Nat} {r:Rp} (h:InvR j r) (t:Tm):InvR j (pruneR r t).1:=by
 by_cases hk:knownT r.mks t
 ·by_cases hb:bef r.fl t = true
  ·rw [pruneR_yes hk hb]
   have hup:∀ m ∈ upto r t,m ∈ r.log:=fun m hm => List.mem_of_mem_take hm
   have hlen:=h.len;have h1:=len_fold r.base (upto r t)
   have h2:(upto r t).length + (since r.log t).length = r.log.length:=by
    have:=since_len r.log t;unfold upto;rw [List.length_take];omega
   have hone:∀ m ∈ upto r t,oneM m = true:=fun m hm => h.lone m (hup m hm)
   refine ⟨treeP_fold _ h.tree hone,?_,fun m hm => h.lone m (mem_since hm).1,h.mks,fun m hm => h.bel m (mem_since hm).1,.inr hk,fun m hm => (mem_since hm).2,?_,h.mlen,⟨rk_fold _ h.tree hone h.rk.1 (fun m hm => h.rk.2 m (hup m hm)),fun m hm => h.rk.2 m (mem_since hm).1⟩,fun q => ?_⟩
   ·exact h.lrise.filter _
   ·show (foldM r.base (upto r t)).length + (since r.log t).length ≤ j
    omega
   ·replace q:t = ⟨0,0⟩:=q
    have:=hk.1.1;rw [q] at this;exact absurd this (by decide)
  ·rw [pruneR_old hk (by simpa using hb)];exact h
 ·rw [pruneR_no hk];exact h
theorem inv_eq {j:Nat} {r r':Rp} (h:InvR j r) (e:EqP r r'):InvR j r':=by
 have eb:=e.b.1;have el:=e.l.1;have et:=nrmM_t el
 have ho:ofM r'.log = ofM r.log:=by rw [ofM_t,ofM_t,et]
 have hm:∀ m ∈ r'.log,∃ y ∈ r.log,nrmM m = nrmM y:=fun m hm => nrmM_mem el hm
 have ht:∀ {x y:Mv},nrmM x = nrmM y → x.t = y.t:=fun {x y} q => show (nrmM x).t = (nrmM y).t by rw [q]
 refine ⟨⟨rise_eq eb h.tree.rise,fun x hx => ?_,?_⟩,?_,fun m hm' => ?_,by rw [e.m];exact h.mks,fun m hm' => ?_,by rw [e.f,e.m];exact h.fl,fun m hm' => ?_,by rw [nrm_len eb,len_eqM el];exact h.len,by rw [e.m];exact h.mlen,rk_eq e,fun q => ?_⟩
 ·obtain ⟨y,hy,q⟩:=nrm_mem eb hx
  rw [one_eq q];exact h.tree.one y hy
 ·obtain ⟨d,hd⟩:=h.tree.dep
  refine ⟨d,fun x hx => ?_⟩
  obtain ⟨y,hy,q⟩:=nrm_mem eb hx;rw [nrm_ch q,nrm_pa q];exact hd y hy
 ·have h1:(r.log.map (fun m => m.t)).Pairwise (fun a b => bef a b = true):=List.pairwise_map.2 h.lrise
  rw [← et] at h1;exact List.pairwise_map.1 h1
 ·obtain ⟨y,hy,q⟩:=hm m hm'
  rw [oneM_eq q];exact h.lone y hy
 ·obtain ⟨y,hy,q⟩:=hm m hm'
  rw [e.m,ht q];exact h.bel y hy
 ·obtain ⟨y,hy,q⟩:=hm m hm'
  rw [e.f,ht q];exact h.abv y hy
 ·rw [e.f] at q
  have:=h.zero q;refine ⟨List.length_eq_zero_iff.1 (by rw [nrm_len eb,this.1];rfl),by rw [e.m,ho,this.2]⟩
theorem ranksL_len' (zs:List Nat):(ranksL zs).length ≤ 20 + 20 * zs.length:=by
 unfold ranksL;have h1:=partL_len (Fg.encFlags (someL zs));have h2:=Fg.encFlags_len (someL zs);have h3:=Rl.encR_len (restL zs) 0;have h4:=restL_len zs;rw [someL_len] at h2;rw [List.length_append];omega
theorem oneL_len (k:Int) (s:ByteArray):(Ck.oneL (k,s)).length ≤ 15 + s.size:=by
 unfold Ck.oneL Ck.sealL;simp only [List.length_append,List.length_take,List.length_cons,List.length_nil];have h1:=putL_length s.size;have h2:=size_list s;omega
theorem allC_len {j:Nat} {r:Rp} (h:InvR j r):((allC r).flatMap Ck.oneL).length ≤ 164 * (r.base.length + r.log.length) + 20 * r.mks.length + 600:=by
 have b1:=dEnc_len (r.base.map (·.ch));have b2:=dEnc_len (r.base.map (·.pa))
 have b3:(Dc.encDict (r.base.map (fun x:Rw => x.nm))).length ≤ 10 + (10 + 64) * (r.base.map (fun x:Rw => x.nm)).length + 20 * (r.base.map (fun x:Rw => x.nm)).length:=Dc.encDict_len (fun s hs => by
  obtain ⟨x,hx,rfl⟩:=List.mem_map.1 hs
  exact (oneR_in (h.tree.one x hx)).1.2.2.2.2)
 have b4:=ranksL_len' (r.base.map (·.rk));have c1:=partL_len (dEnc (r.base.map (·.ch)));have c2:=partL_len (dEnc (r.base.map (·.pa)));have c3:=partL_len (Dc.encDict (r.base.map (fun x:Rw => x.nm)));have m1:=dEnc_len (r.mks.map (·.rep));have m2:=dEnc_len (r.mks.map (·.cnt));have m3:=partL_len (dEnc (r.mks.map (·.rep)));have l1:=dEnc_len (r.log.map (·.t.c));have l2:=Rn.encRuns_len (r.log.map fun m => m.t.r.toNat);have l3:=dEnc_len (r.log.map (·.pa));have l4:=dEnc_len (r.log.map (·.ch))
 have l5:(Dc.encDict (r.log.map (·.nm))).length ≤ 10 + (10 + 64) * (r.log.map (·.nm)).length + 20 * (r.log.map (·.nm)).length:=Dc.encDict_len (fun s hs => by
  obtain ⟨m,hm,rfl⟩:=List.mem_map.1 hs;have:=(oneR_in (oneM_in (h.lone m hm)).2).1;unfold rowOf at this
  exact this.2.2.2.2)
 have l6:=ranksL_len' (r.log.map (·.rk));have l7:=partL_len (dEnc (r.log.map (·.t.c)));have l8:=partL_len (dEnc (r.log.map (·.pa)));have p1:=putL_length r.fl.c.toNat;have p2:=putL_length r.fl.r.toNat;have p3:=putL_length r.base.length;have p4:=putL_length r.mks.length;have p5:=putL_length r.log.length;rw [List.length_map] at b1 b2 b3 b4 m1 m2 l1 l2 l3 l4 l5 l6;have o1:=oneL_len 1 (str (colsB [Col.cnt r.fl.c.toNat,.cnt r.fl.r.toNat]));have o2:=oneL_len 2 (str (colsB (rowsC r.base)));have o3:=oneL_len 3 (str (colsB (marksC r.mks)))
 have o4:=oneL_len 4 (str (putL r.log.length));have o5:=oneL_len 5 (str (partL (dEnc (r.log.map (·.t.c))) ++ Rn.encRuns (r.log.map fun m => m.t.r.toNat)));have o6:=oneL_len 6 (str (partL (dEnc (r.log.map (·.pa))) ++ dEnc (r.log.map (·.ch))));have o7:=oneL_len 7 (str (Dc.encDict (r.log.map (·.nm))));have o8:=oneL_len 8 (str (ranksL (r.log.map (·.rk))));rw [str_size] at o1 o2 o3 o4 o5 o6 o7 o8
 have s1:(colsB [Col.cnt r.fl.c.toNat,.cnt r.fl.r.toNat]).length = (putL r.fl.c.toNat).length + (putL r.fl.r.toNat).length:=by
  unfold colsB;simp only [List.flatMap_cons,List.flatMap_nil,List.length_append,List.length_nil,colB];omega
 have s2:(colsB (rowsC r.base)).length = (putL r.base.length).length + ((partL (dEnc (r.base.map (·.ch)))).length + ((partL (dEnc (r.base.map (·.pa)))).length + ((partL (Dc.encDict (r.base.map (fun x:Rw => x.nm)))).length + (ranksL (r.base.map (·.rk))).length))):=by
  unfold colsB rowsC;simp only [List.flatMap_cons,List.flatMap_nil,List.length_append,List.length_nil,colB];omega
 have s3:(colsB (marksC r.mks)).length = (putL r.mks.length).length + ((partL (dEnc (r.mks.map (·.rep)))).length + (dEnc (r.mks.map (·.cnt))).length):=by
  unfold colsB marksC;simp only [List.flatMap_cons,List.flatMap_nil,List.length_append,List.length_nil,colB];omega
 unfold allC sepC opC;simp only [List.flatMap_cons,List.flatMap_nil,List.cons_append,List.nil_append,List.length_append,List.length_nil] at *;omega
theorem fileS_len (r:Rp):(fileS r).size ≤ 5 + ((allC r).flatMap Ck.oneL).length:=by
 unfold fileS Ck.joinS
 split
 ·rw [str_size]
  unfold Ck.joinL;simp only [List.length_append,List.length_cons,List.length_nil];omega
 ·exact Nat.zero_le _
theorem InvR.ok {j:Nat} {r:Rp} (h:InvR j r) (hj:j ≤ 45):OkR r:=by
 have h1:=allC_len h;have h2:=fileS_len r;have h3:=h.len;have h4:=h.mlen
 refine ⟨h.wf (by omega),h.rk,?_,?_⟩ <;> omega
end Iv
end
section
open Go.RowKit Go.Shelf
attribute [local go_sem] Fl.run_store_float
namespace Pl
open Mem Tp Tr Mo Fo Sn Og St
theorem index_way0 (w:World):(Instr.index 109 (.agg #[.int .i64 1,.func (.func 50) #[] #[],.int .i64 2,.func (.func 51) #[] #[],.int .i64 3,.func (.func 52) #[] #[],.int .i64 4,.func (.func 53) #[] #[]]) (.int .i64 0)).run Tryz.prog w = .ok (.agg #[.int .i64 1,.func (.func 50) #[] #[]]) w:=by kernel_rfl
theorem index_way1 (w:World):(Instr.index 109 (.agg #[.int .i64 1,.func (.func 50) #[] #[],.int .i64 2,.func (.func 51) #[] #[],.int .i64 3,.func (.func 52) #[] #[],.int .i64 4,.func (.func 53) #[] #[]]) (.int .i64 1)).run Tryz.prog w = .ok (.agg #[.int .i64 2,.func (.func 51) #[] #[]]) w:=by kernel_rfl
theorem index_way2 (w:World):(Instr.index 109 (.agg #[.int .i64 1,.func (.func 50) #[] #[],.int .i64 2,.func (.func 51) #[] #[],.int .i64 3,.func (.func 52) #[] #[],.int .i64 4,.func (.func 53) #[] #[]]) (.int .i64 2)).run Tryz.prog w = .ok (.agg #[.int .i64 3,.func (.func 52) #[] #[]]) w:=by kernel_rfl
theorem index_way3 (w:World):(Instr.index 109 (.agg #[.int .i64 1,.func (.func 50) #[] #[],.int .i64 2,.func (.func 51) #[] #[],.int .i64 3,.func (.func 52) #[] #[],.int .i64 4,.func (.func 53) #[] #[]]) (.int .i64 3)).run Tryz.prog w = .ok (.agg #[.int .i64 4,.func (.func 53) #[] #[]]) w:=by kernel_rfl
attribute [local go_sem] index_way0 index_way1 index_way2 index_way3
theorem ded_cells {W:World} {b:Nat} {a0 a1 a2 a3 a4 a5 a6 a7:Value} {t:TypeId} (h:W.heap[b]? = some (.cells #[a0,a1,a2,a3,a4,a5,a6,a7] t (0,0))):W.cell? ⟨b,0,none⟩ = some a0 ∧ W.cell? ⟨b,1,none⟩ = some a1 ∧ W.cell? ⟨b,2,none⟩ = some a2 ∧ W.cell? ⟨b,3,none⟩ = some a3 ∧ W.cell? ⟨b,4,none⟩ = some a4 ∧ W.cell? ⟨b,5,none⟩ = some a5 ∧ W.cell? ⟨b,6,none⟩ = some a6 ∧ W.cell? ⟨b,7,none⟩ = some a7:=
 ⟨cell_at h 0,cell_at h 1,cell_at h 2,cell_at h 3,cell_at h 4,cell_at h 5,cell_at h 6,cell_at h 7⟩
theorem rep_cells {W:World} {b:Nat} {a0 a1 a2 a3 a4:Value} {t:TypeId} (h:W.heap[b]? = some (.cells #[a0,a1,a2,a3,a4] t (0,0))):W.cell? ⟨b,0,none⟩ = some a0 ∧ W.cell? ⟨b,1,none⟩ = some a1 ∧ W.cell? ⟨b,2,none⟩ = some a2 ∧ W.cell? ⟨b,3,none⟩ = some a3 ∧ W.cell? ⟨b,4,none⟩ = some a4:=
 ⟨cell_at h 0,cell_at h 1,cell_at h 2,cell_at h 3,cell_at h 4⟩
theorem splice5 (l:List Value) (o:Nat) (v0 v1 v2 v3 v4:Value) (h:o + 5 ≤ l.length):((((l.set o v0).set (o + 1) v1).set (o + 2) v2).set (o + 3) v3).set (o + 4) v4 = splice l o [v0,v1,v2,v3,v4]:=by
 refine List.ext_getElem? fun i => ?_
 have hm:min o l.length = o:=by omega
 unfold splice;rw [List.getElem?_append,List.getElem?_append];simp only [List.length_take,List.length_cons,List.length_nil,List.getElem?_set,List.length_set,hm]
 by_cases q:i < o
 ·rw [if_neg (by omega),if_neg (by omega),if_neg (by omega),if_neg (by omega),if_neg (by omega),if_pos (by omega),List.getElem?_take_of_lt q]
 ·obtain ⟨d,rfl⟩:∃ d,i = o + d:=⟨i - o,by omega⟩
  have hd:o + d - o = d:=by omega
  rcases (show d = 0 ∨ d = 1 ∨ d = 2 ∨ d = 3 ∨ d = 4 ∨ 5 ≤ d by omega) with q | q | q | q | q | q
  ·subst q;simp [show o < l.length by omega]
  ·subst q;simp [show o + 1 < l.length by omega];intro h;omega
  ·subst q;simp [show o + 2 < l.length by omega];intro h;omega
  ·subst q;simp [show o + 3 < l.length by omega];intro h;omega
  ·subst q;simp [show o + 4 < l.length by omega];intro h;omega
  ·rw [if_neg (by omega),if_neg (by omega),if_neg (by omega),if_neg (by omega),if_neg (by omega),if_neg (by omega),List.getElem?_drop,if_neg (by omega)]
   congr 1
   omega
theorem set5 {w:World} {b:Nat} {cs:List Value} {t:TypeId} (h:w.heap[b]? = some (.cells cs.toArray t (0,0))) (o:Nat) (v0 v1 v2 v3 v4:Value) (ho:o + 5 ≤ cs.length) :
  (((((w.setCell ⟨b,o,none⟩ v0).setCell ⟨b,o + 1,none⟩ v1).setCell ⟨b,o + 2,none⟩ v2).setCell ⟨b,o + 3,none⟩ v3).setCell ⟨b,o + 4,none⟩ v4).heap[b]? = some (.cells (splice cs o [v0,v1,v2,v3,v4]).toArray t (0,0)):=by
 have h5:=set_at (set_at (set_at (set_at (set_at h o v0) (o + 1) v1) (o + 2) v2) (o + 3) v3) (o + 4) v4;simp only [List.setIfInBounds_toArray] at h5;rw [h5,splice5 cs o v0 v1 v2 v3 v4 ho]
theorem set5_other {w:World} {b j:Nat} (hj:j ≠ b) (o:Nat) (v0 v1 v2 v3 v4:Value) :
  (((((w.setCell ⟨b,o,none⟩ v0).setCell ⟨b,o + 1,none⟩ v1).setCell ⟨b,o + 2,none⟩ v2).setCell ⟨b,o + 3,none⟩ v3).setCell ⟨b,o + 4,none⟩ v4).heap[j]? = w.heap[j]?:=
 (setCell_heap_other hj).trans ((setCell_heap_other hj).trans ((setCell_heap_other hj).trans ((setCell_heap_other hj).trans (setCell_heap_other hj))))
theorem set5_below {B:Nat} {w0 w:World} {b:Nat} (h:Below B w0 w) (hb:B ≤ b) (o:Nat) (v0 v1 v2 v3 v4:Value) :
  Below B w0 (((((w.setCell ⟨b,o,none⟩ v0).setCell ⟨b,o + 1,none⟩ v1).setCell ⟨b,o + 2,none⟩ v2).setCell ⟨b,o + 3,none⟩ v3).setCell ⟨b,o + 4,none⟩ v4):=
 ((((h.setCell (p:=⟨b,o,none⟩) hb v0).setCell (p:=⟨b,o + 1,none⟩) hb v1).setCell (p:=⟨b,o + 2,none⟩) hb v2).setCell (p:=⟨b,o + 3,none⟩) hb v3).setCell (p:=⟨b,o + 4,none⟩) hb v4
theorem pw_store {W W':World} {base p b:Nat} {vp:Value} {xs:List X3} {pool:List Mv} (h:PW W base p b vp xs pool) {k:Nat} {y:X3} (hy:RepX W y) (hsep:∀ j,blocks y j → j ≠ p ∧ j ≠ b ∧ vp.ownBlock ≠ some j)
  (hg:W'.heap[b]? = some (.cells ((xs.set k y).flatMap repC).toArray 34 (0,0))) (ho:∀ j,j ≠ b → W'.heap[j]? = W.heap[j]?) (hs:W.heap.size ≤ W'.heap.size):PW W' base p b vp (xs.set k y) pool:=by
 have hm:∀ x ∈ xs.set k y,x = y ∨ x ∈ xs:=fun x hx => (List.mem_or_eq_of_mem_set hx).symm
 refine ⟨by rw [List.length_set];exact (ho _ h.pb).trans h.hp,hg,h.pb,h.bp,h.bb,own_other h.own (fun j e => ho j (h.pp j e).2),h.pp,fun x hx => ?_,fun x hx => ?_,by rw [List.length_set];exact h.n1,by rw [List.length_set];exact h.n8⟩
 ·rcases hm x hx with rfl | hx
  ·exact hy.same hs (fun j hj => ho j (hsep j hj).2.1)
  ·exact (h.rep x hx).same hs (fun j hj => ho j (h.sep x hx j hj).2.1)
 ·rcases hm x hx with rfl | hx
  ·exact hsep
  ·exact h.sep x hx
def PB (p b:Nat) (vp:Value) (xs:List X3) (j:Nat):Prop:=j = p ∨ j = b ∨ vp.ownBlock = some j ∨ ∃ x ∈ xs,blocks x j
theorem PW.same {W W':World} {base p b:Nat} {vp:Value} {xs:List X3} {pool:List Mv} (h:PW W base p b vp xs pool) (hs:W.heap.size ≤ W'.heap.size) (ho:∀ k,PB p b vp xs k → W'.heap[k]? = W.heap[k]?):PW W' base p b vp xs pool:=
 ⟨(ho _ (.inl rfl)).trans h.hp,(ho _ (.inr (.inl rfl))).trans h.hb,h.pb,h.bp,h.bb,own_other h.own (fun j e => ho j (.inr (.inr (.inl e)))),h.pp,fun x hx => (h.rep x hx).same hs (fun k hk => ho k (.inr (.inr (.inr ⟨x,hx,hk⟩)))),h.sep,h.n1,h.n8⟩
theorem PW.lt {W:World} {base p b:Nat} {vp:Value} {xs:List X3} {pool:List Mv} (h:PW W base p b vp xs pool) {k:Nat} (hk:PB p b vp xs k):k < W.heap.size:=by
 rcases hk with rfl | rfl | e | ⟨x,hx,e⟩
 ·exact lt_of_block h.hp
 ·exact lt_of_block h.hb
 ·exact (h.own.lt k e).2
 ·exact (h.rep x hx).lt e
theorem pb_vp {p b n m:Nat} {vp vp':Value} {xs:List X3} (hnv:∀ j,vp'.ownBlock = some j → vp.ownBlock = some j ∨ n ≤ j) (hn:m ≤ n):∀ j,PB p b vp' xs j → PB p b vp xs j ∨ m ≤ j:=fun j h => by
 rcases h with e | e | e | e
 ·exact .inl (.inl e)
 ·exact .inl (.inr (.inl e))
 ·rcases hnv j e with e | e
  ·exact .inl (.inr (.inr (.inl e)))
  ·exact .inr (Nat.le_trans hn e)
 ·exact .inl (.inr (.inr (.inr e)))
theorem pb_set {p b n m k:Nat} {vp vp':Value} {xs:List X3} {x y:X3} (hx:xs[k]? = some x) (hnv:∀ j,vp'.ownBlock = some j → vp.ownBlock = some j ∨ n ≤ j) (hbl:∀ j,blocks y j → blocks x j ∨ n ≤ j) (hn:m ≤ n):∀ j,PB p b vp' (xs.set k y) j → PB p b vp xs j ∨ m ≤ j:=fun j h => by
 rcases h with e | e | e | ⟨z,hz,e⟩
 ·exact .inl (.inl e)
 ·exact .inl (.inr (.inl e))
 ·rcases hnv j e with e | e
  ·exact .inl (.inr (.inr (.inl e)))
  ·exact .inr (Nat.le_trans hn e)
 ·rcases List.mem_or_eq_of_mem_set hz with hz | rfl
  ·exact .inl (.inr (.inr (.inr ⟨z,hz,e⟩)))
  ·rcases hbl j e with e | e
   ·exact .inl (.inr (.inr (.inr ⟨x,List.mem_of_getElem? hx,e⟩)))
   ·exact .inr (Nat.le_trans hn e)
def StepS (rs:List Rp) (pool:List Mv) (d:Dd) (rs':List Rp) (pool':List Mv) (c:Int):Prop:=
 (c = 1 ∧ rs' = rs ∧ pool' = pool ∧ ((d.who < 1 ∨ (rs.length:Int) < d.who) ∨ (d.kind ≠ 1 ∧ d.kind ≠ 2 ∧ d.kind ≠ 3 ∧ d.kind ≠ 4))) ∨
 ∃ (k:Nat) (r r':Rp),rs[k]? = some r ∧ d.who = (k:Int) + 1 ∧ StepR r d pool r' pool' c ∧ rs' = if c = 0 then rs.set k r' else rs
def StepC (base p b:Nat) (vp:Value) (xs:List X3) (pool:List Mv) (d:Dd) (w:World) (e:Ending) (w':World):Prop:=
 ∃ (vp':Value) (xs':List X3) (pool':List Mv) (c:Int),e = .returned (.int .i64 c) ∧ StepS (xs.map (·.2)) pool d (xs'.map (·.2)) pool' c ∧ PW w' base p b vp' xs' pool' ∧ Below base w w' ∧ Kept (fun j => j = p ∨ j = b ∨ vp.ownBlock = some j) w w' ∧ ∀ j,PB p b vp' xs' j → PB p b vp xs j ∨ w.heap.size ≤ j
theorem step_not {base p b:Nat} {vp:Value} {xs:List X3} {pool:List Mv} (d:Dd) (w:World) (hP:PW w base p b vp xs pool) (hw:d.who < 1 ∨ (xs.length:Int) < d.who) :
  Calls Tryz.prog 23 #[.pointer (some ⟨p,0,none⟩),dedV d] w (StepC base p b vp xs pool d w):=by
 have hb0:=(Below.refl w.heap.size w).alloc (Nat.le_refl _) (dedO d);have HR:=hid (replica_not _ (hP.below hb0) d.who hw);have hF:=hid (fun w' (h:Below w.heap.size w w') => (⟨vp,xs,pool,1,rfl,.inl ⟨rfl,rfl,rfl,.inl (by rw [List.length_map];exact hw)⟩,hP.below h,h.mono (Nat.le_trans hP.bp (Nat.le_of_lt (lt_of_block hP.hp))),Kept.of_below h,fun _ e => .inl e⟩:StepC base p b vp xs pool d w (.returned (.int .i64 1)) w'));clear hw;unfold dedV;unfold dedO at *;replace hb0:=hid hb0;go_enter Tryz.func23,Tryz.ntmps23;go_wp2_with fail;refine HR.out.mono ?_
 rintro e w1 ⟨rfl,b1⟩;have hb1:=hid ((hb0.out.trans (b1.mono hb0.out.size)).alloc (by have:=hb0.out.size;have:=b1.size;omega) rep0);unfold repV;unfold rep0 at hb1;go_wp2_with fail;go_ret;exact hF.out _ hb1.out
theorem step_fin {base p b k:Nat} {vp vp' v0 v1 v2:Value} {xs:List X3} {pool pool':List Mv} {x:X3} {yr:Rp} {d:Dd} {w W9:World} {n:Nat} (hP9:PW W9 base p b vp' xs pool') (hx:xs[k]? = some x) (hwho:d.who = (k:Int) + 1) (hy9:RepX W9 (⟨v0,v1,v2⟩,yr)) (hsep:∀ j,blocks (⟨v0,v1,v2⟩,yr) j → j ≠ p ∧ j ≠ b ∧ vp'.ownBlock ≠ some j)
  (hS:StepR x.2 d pool yr pool' 0) (hb9:Below base w W9) (hk9:Kept (fun k => k = p ∨ vp.ownBlock = some k) w W9) (hnv:∀ j,vp'.ownBlock = some j → vp.ownBlock = some j ∨ n ≤ j) (hbl:∀ j,blocks (⟨v0,v1,v2⟩,yr) j → blocks x j ∨ n ≤ j) (hn:w.heap.size ≤ n) :
  StepC base p b vp xs pool d w (.returned (.int .i64 0)) (((((W9.setCell ⟨b,k * 5,none⟩ v0).setCell ⟨b,k * 5 + 1,none⟩ (.int .i64 yr.fl.c)).setCell ⟨b,k * 5 + 2,none⟩ (.int .i64 yr.fl.r)).setCell ⟨b,k * 5 + 3,none⟩ v1).setCell ⟨b,k * 5 + 4,none⟩ v2).drew:=by
 have hkn:=(List.getElem?_eq_some_iff.1 hx).1
 have hfit:k * 5 + 5 ≤ (xs.flatMap repC).length:=by rw [flat_length repC_len];omega
 have hfl:splice (xs.flatMap repC) (k * 5) [v0,.int .i64 yr.fl.c,.int .i64 yr.fl.r,v1,v2] = (xs.set k (⟨v0,v1,v2⟩,yr)).flatMap repC:=flat_splice repC_len xs k (⟨v0,v1,v2⟩,yr) hkn;have hg10:=set5 hP9.hb (k * 5) v0 (.int .i64 yr.fl.c) (.int .i64 yr.fl.r) v1 v2 hfit;have hb10:=set5_below hb9 hP9.bb (k * 5) v0 (.int .i64 yr.fl.c) (.int .i64 yr.fl.r) v1 v2
 have hO10:=fun j (hj:j ≠ b) => set5_other (w:=W9) hj (k * 5) v0 (.int .i64 yr.fl.c) (.int .i64 yr.fl.r) v1 v2
 rw [hfl] at hg10;obtain ⟨X,hX⟩:∃ X,((((W9.setCell ⟨b,k * 5,none⟩ v0).setCell ⟨b,k * 5 + 1,none⟩ (.int .i64 yr.fl.c)).setCell ⟨b,k * 5 + 2,none⟩ (.int .i64 yr.fl.r)).setCell ⟨b,k * 5 + 3,none⟩ v1).setCell ⟨b,k * 5 + 4,none⟩ v2 = X:=⟨_,rfl⟩
 have hs:W9.heap.size ≤ X.heap.size:=by rw [← hX];simp [World.setCell]
 rw [hX] at hg10 hb10 hO10 ⊢;clear hX;exact ⟨vp',_,pool',0,rfl,.inr ⟨k,x.2,yr,by rw [List.getElem?_map,hx];rfl,hwho,hS,by rw [if_pos rfl,List.map_set]⟩,pw_store (W':=X.drew) hP9 hy9 hsep hg10 hO10 hs,hb10.drew,⟨hb10.drew.os,hb10.drew.tape,hb10.drew.output,hb10.size,fun j hj ht => (hO10 j (fun e => ht (.inr (.inl e)))).trans (hk9.block j hj (fun e => ht (e.imp id .inr)))⟩,pb_set hx hnv hbl hn⟩
theorem step_in {base p b:Nat} {vp:Value} {xs:List X3} {pool:List Mv} (x:X3) (d:Dd) (k:Nat) (w:World) (hP:PW w base p b vp xs pool) (hx:xs[k]? = some x) (hwho:d.who = (k:Int) + 1)
  (H1:d.kind = 1 → ∀ W,PW W base p b vp xs pool → Calls Tryz.prog 50 #[.pointer (some ⟨p,0,none⟩),rpV x,dedV d] W (DidC base p b vp xs pool x d W))
  (H2:d.kind = 2 → ∀ W,PW W base p b vp xs pool → Calls Tryz.prog 51 #[.pointer (some ⟨p,0,none⟩),rpV x,dedV d] W (DidC base p b vp xs pool x d W))
  (H3:d.kind = 3 → ∀ W,PW W base p b vp xs pool → Calls Tryz.prog 52 #[.pointer (some ⟨p,0,none⟩),rpV x,dedV d] W (DidC base p b vp xs pool x d W))
  (H4:d.kind = 4 → ∀ W,PW W base p b vp xs pool → Calls Tryz.prog 53 #[.pointer (some ⟨p,0,none⟩),rpV x,dedV d] W (DidC base p b vp xs pool x d W)) :
  Calls Tryz.prog 23 #[.pointer (some ⟨p,0,none⟩),dedV d] w (StepC base p b vp xs pool d w):=by
 have hX:=hP.rep x (List.mem_of_getElem? hx);have hb0:=(Below.refl w.heap.size w).alloc (Nat.le_refl _) (dedO d);have HR:=hid (replica_any _ (hP.below hb0) k _ hx);have gd:=alloc_new w (dedO d);have hkn:=(List.getElem?_eq_some_iff.1 hx).1;have n8:=hP.n8;replace H1:=hid H1;replace H2:=hid H2;replace H3:=hid H3;replace H4:=hid H4;obtain ⟨kind,who,frm,at_,pa,ch,nm,rk⟩:=d;simp only at hwho;subst hwho;obtain ⟨ab,kb,eb⟩:=hX.b.len;obtain ⟨al,kl,el⟩:=hX.l.len;obtain ⟨am,km,em⟩:=hX.m.len;obtain ⟨⟨vb,vl,vm⟩,r⟩:=x;simp only at eb el em;subst eb el em
 unfold dedV at *;unfold dedO at *;unfold rpV repV at *;replace hb0:=hid hb0;replace gd:=hid gd;replace hX:=hid hX;replace hx:=hid hx;replace hP:=hid hP;go_enter Tryz.func23,Tryz.ntmps23;go_wp2_with fail;refine HR.out.mono ?_
 rintro e w1 ⟨rfl,b1⟩;have hs1:=b1.size;simp only [World.size_alloc] at hs1;have gd1:=alloc_at (.cells #[.slice ab r.base.length kb,.int .i64 r.fl.c,.int .i64 r.fl.r,.slice al r.log.length kl,.slice am r.mks.length km] 34) (below_at b1 gd.out (by simp));have gx1:=alloc_new w1 (.cells #[.slice ab r.base.length kb,.int .i64 r.fl.c,.int .i64 r.fl.r,.slice al r.log.length kl,.slice am r.mks.length km] 34)
 have hb1:=(hb0.out.trans (b1.mono hb0.out.size)).alloc (by omega) (.cells #[.slice ab r.base.length kb,.int .i64 r.fl.c,.int .i64 r.fl.r,.slice al r.log.length kl,.slice am r.mks.length km] 34)
 have hsz:(w1.alloc (.cells #[.slice ab r.base.length kb,.int .i64 r.fl.c,.int .i64 r.fl.r,.slice al r.log.length kl,.slice am r.mks.length km] 34)).heap.size = w1.heap.size + 1:=by simp
 replace gd1:=hid gd1;replace gx1:=hid gx1;replace hb1:=hid hb1;replace hsz:=hid hsz;replace b1:=hid b1;go_wp2_with fail;generalize w1.alloc (.cells #[.slice ab r.base.length kb,.int .i64 r.fl.c,.int .i64 r.fl.r,.slice al r.log.length kl,.slice am r.mks.length km] 34) = W1 at *
 have ones:Hid (∀ v ∈ [Value.slice ab r.base.length kb,.int .i64 r.fl.c,.int .i64 r.fl.r,.slice al r.log.length kl,.slice am r.mks.length km],v.oneCell' = true):=hid (by
  intro v hv;simp only [List.mem_cons,List.not_mem_nil,or_false] at hv
  rcases hv with rfl | rfl | rfl | rfl | rfl <;> rfl)
 go_loopw [25] (fun i wr => ∃ j:Nat,i = .int .i64 j ∧ j ≤ 4 ∧ Hid (Below W1.heap.size W1 wr) ∧ Hid (∀ z:Nat,z < j → kind ≠ (z:Int) + 1)) (fun i _ => 4 - (intOf i).toNat)
 case atStart => exact ⟨0,rfl,by omega,hid (Below.refl _ _),hid (fun z hz => absurd hz (by omega))⟩
 case round =>
  obtain ⟨j,rfl,hj,hbr,hno⟩:=hrel;have hsr:=hbr.out.size;have gd2:=below_at hbr.out gd1.out (by have:=hsz.out;omega);have gx2:=below_at hbr.out gx1.out (by have:=hsz.out;omega);have hb2:=hb1.out.trans (hbr.out.mono (by have:=hsz.out;omega))
  rcases (show j = 0 ∨ j = 1 ∨ j = 2 ∨ j = 3 ∨ j = 4 by omega) with rfl | rfl | rfl | rfl | rfl
  ·have gd3:=alloc_at (.cells #[.int .i64 1,.func (.func 50) #[] #[]] 108) gd2
   have gx3:=alloc_at (.cells #[.int .i64 1,.func (.func 50) #[] #[]] 108) gx2;have gw3:=alloc_new wr (.cells #[.int .i64 1,.func (.func 50) #[] #[]] 108);have hb3:=hb2.alloc (by have:=hsz.out;omega) (.cells #[.int .i64 1,.func (.func 50) #[] #[]] 108);have hbr3:=hbr.out.alloc hsr (.cells #[.int .i64 1,.func (.func 50) #[] #[]] 108);have f0:(wr.alloc (.cells #[.int .i64 1,.func (.func 50) #[] #[]] 108)).cell? ⟨w.heap.size,0,none⟩ = some (.int .i64 kind):=cell_at gd3 0;replace gd3:=hid gd3;replace gx3:=hid gx3;replace gw3:=hid gw3;replace hb3:=hid hb3
   replace hbr3:=hid hbr3;clear gd2 gx2 hb2
   by_cases hk:kind = 1
   ·subst hk
    obtain ⟨-,f1,f2,f3,f4,f5,f6,f7⟩:=ded_cells gd3.out;obtain ⟨x0,x1,x2,x3,x4⟩:=rep_cells gx3.out;have y0:(wr.alloc (.cells #[.int .i64 1,.func (.func 50) #[] #[]] 108)).cell? ⟨wr.heap.size,0,none⟩ = some (.int .i64 1):=cell_at gw3.out 0;have y1:(wr.alloc (.cells #[.int .i64 1,.func (.func 50) #[] #[]] 108)).cell? ⟨wr.heap.size,1,none⟩ = some (.func (.func 50) #[] #[]):=cell_at gw3.out 1;go_wp2_with fail;refine (H1.out trivial _ (hP.out.below hb3.out)).mono ?_
    rintro e w8 ⟨y,vp',pool',c,rfl,hS,hD⟩;obtain ⟨⟨yb,yl,ym⟩,yr⟩:=y;obtain ⟨ab',kb',eb⟩:=hD.ry.b.len;obtain ⟨al',kl',el⟩:=hD.ry.l.len;obtain ⟨am',km',em⟩:=hD.ry.m.len;simp only at eb el em;subst eb el em;rw [show rpV (⟨.slice ab' yr.base.length kb',.slice al' yr.log.length kl',.slice am' yr.mks.length km'⟩,yr) = .agg #[.slice ab' yr.base.length kb',.int .i64 yr.fl.c,.int .i64 yr.fl.r,.slice al' yr.log.length kl',.slice am' yr.mks.length km'] from rfl];have hlp:=lt_of_block hP.out.hp;have s8:=hD.kp.size;simp only [World.size_alloc] at s8
    have g8:=(hD.kp.block w.heap.size (by have:=hsz.out;simp;omega) (fun e => e.elim (fun e => by omega) (fun e => by have:=(hP.out.own.lt _ e).2;omega))).trans gd3.out;obtain ⟨RO,hRO⟩:∃ o:Obj,o = (.cells #[.slice ab' yr.base.length kb',.int .i64 yr.fl.c,.int .i64 yr.fl.r,.slice al' yr.log.length kl',.slice am' yr.mks.length km'] 34):=⟨_,rfl⟩;have g9:=alloc_at RO g8;have z9:=alloc_new w8 RO;have hP9:=hD.pw.below ((Below.refl w8.heap.size w8).alloc (Nat.le_refl _) RO);have hbb:=hP.out.bp
    have hb9:Below base w (w8.alloc RO):=((hb3.out.mono (by omega)).trans hD.be).alloc (by have:=hsz.out;omega) RO;have hk9:=((Kept.of_below (T:=fun k => k = p ∨ vp.ownBlock = some k) hb3.out).trans hD.kp).trans (Kept.of_below ((Below.refl w8.heap.size w8).alloc (Nat.le_refl _) RO));have hy9:RepX (w8.alloc RO) (⟨.slice ab' yr.base.length kb',.slice al' yr.log.length kl',.slice am' yr.mks.length km'⟩,yr):=RepW.below hD.ry ((Below.refl w8.heap.size w8).alloc (Nat.le_refl _) RO);have hnv:=hD.nv;simp only [World.size_alloc] at hnv
    have hsep:∀ j,blocks (⟨.slice ab' yr.base.length kb',.slice al' yr.log.length kl',.slice am' yr.mks.length km'⟩,yr) j → j ≠ p ∧ j ≠ b ∧ vp'.ownBlock ≠ some j:=fun j hj => by
     rcases hD.bl j hj with h | ⟨h,h'⟩
     ·exact hD.pw.sep _ (List.mem_of_getElem? hx.out) j h
     ·have:=lt_of_block hP.out.hb
      have:=hsz.out;simp only [World.size_alloc] at h;exact ⟨by omega,by omega,h'⟩
    subst hRO
    by_cases hc:c = 0
    ·subst hc
     have c1:(w8.alloc (.cells #[.slice ab' yr.base.length kb',.int .i64 yr.fl.c,.int .i64 yr.fl.r,.slice al' yr.log.length kl',.slice am' yr.mks.length km'] 34)).cell? ⟨w.heap.size,1,none⟩ = some (.int .i64 ((k:Int) + 1)):=cell_at g9 1;have p0:(w8.alloc (.cells #[.slice ab' yr.base.length kb',.int .i64 yr.fl.c,.int .i64 yr.fl.r,.slice al' yr.log.length kl',.slice am' yr.mks.length km'] 34)).cell? ⟨p,0,none⟩ = some (.slice (some ⟨b,0,none⟩) xs.length xs.length):=cell_at hP9.hp 0;obtain ⟨q0,q1,q2,q3,q4⟩:=rep_cells z9
     have hw1:IntKind.i64.wrap ((k:Int) + 1 - 1) = (k:Int):=by rw [IntKind.wrap_i64];omega
     have hw2:IntKind.i64.wrap (k:Int) = (k:Int):=by rw [IntKind.wrap_i64];omega
     have e0:(0:Int) ≤ (k:Int) ∧ (k:Int) < (xs.length:Nat):=by omega
     have hfit:k * 5 + 5 ≤ (xs.flatMap repC).length:=by rw [flat_length repC_len];omega
     replace hP9:=hid hP9;replace hb9:=hid hb9;replace hk9:=hid hk9;replace hy9:=hid hy9;have hbl:=hid hD.bl;clear hD;replace g9:=hid g9;replace z9:=hid z9;replace hnv:=hid hnv;replace hsep:=hid hsep;replace hS:=hid hS;clear g8 f0 f1 f2 f3 f4 f5 f6 f7 x0 x1 x2 x3 x4 y0 y1;go_wp2_with fail;generalize w8.alloc _ = W9 at *;obtain ⟨b0,b1',b2,b3,b4⟩:=hP9.out.cells hx.out;have z0:W9.frozen? ⟨b,k * 5,none⟩ = false:=free_at hP9.out.hb (k * 5);have z1:W9.frozen? ⟨b,k * 5 + 1,none⟩ = false:=free_at hP9.out.hb (k * 5 + 1)
     have z2:W9.frozen? ⟨b,k * 5 + 2,none⟩ = false:=free_at hP9.out.hb (k * 5 + 2);have z3:W9.frozen? ⟨b,k * 5 + 3,none⟩ = false:=free_at hP9.out.hb (k * 5 + 3);have z4:W9.frozen? ⟨b,k * 5 + 4,none⟩ = false:=free_at hP9.out.hb (k * 5 + 4)
     go_region
     all_goals
      go_wp2_with fail;go_ret;exact step_fin hP9.out hx.out rfl hy9.out hsep.out hS.out hb9.out hk9.out hnv.out (fun j hj => (hbl.out j hj).imp id (fun h => by have:=h.1;simp only [World.size_alloc] at this;omega)) (by have:=hsz.out;omega)
    ·have tc:((c:Int) == 0) = false:=by rw [beq_eq_false_iff_ne];exact hc
     replace hP9:=hid hP9;replace hb9:=hid hb9;replace hk9:=hid hk9;replace hnv:=hid hnv;replace hS:=hid hS;clear hD g9 z9 hy9 hsep g8 f0 f1 f2 f3 f4 f5 f6 f7 x0 x1 x2 x3 x4 y0 y1;go_wp2_with fail;go_ret;exact ⟨vp',xs,pool',c,rfl,.inr ⟨k,r,yr,by rw [List.getElem?_map,hx.out];rfl,rfl,hS.out,by rw [if_neg hc]⟩,hP9.out,hb9.out,hk9.out.mono (fun _ _ e => e.imp id .inr),pb_vp hnv.out (by have:=hsz.out;omega)⟩
   ·have tk:((1:Int) == kind) = false:=by rw [beq_eq_false_iff_ne];exact fun e => hk e.symm
    replace hk:=hid hk;go_wp2_with fail
    go_roundw
    case rel => exact ⟨1,rfl,by omega,hbr3,hid (fun z hz => by exact (show z < 0 ∨ z = 0 by omega).elim (fun h => hno.out z h) (fun e => by subst e;exact hk.out))⟩
    case measure => simp [intOf]
  ·have gd3:=alloc_at (.cells #[.int .i64 2,.func (.func 51) #[] #[]] 108) gd2
   have gx3:=alloc_at (.cells #[.int .i64 2,.func (.func 51) #[] #[]] 108) gx2;have gw3:=alloc_new wr (.cells #[.int .i64 2,.func (.func 51) #[] #[]] 108);have hb3:=hb2.alloc (by have:=hsz.out;omega) (.cells #[.int .i64 2,.func (.func 51) #[] #[]] 108);have hbr3:=hbr.out.alloc hsr (.cells #[.int .i64 2,.func (.func 51) #[] #[]] 108);have f0:(wr.alloc (.cells #[.int .i64 2,.func (.func 51) #[] #[]] 108)).cell? ⟨w.heap.size,0,none⟩ = some (.int .i64 kind):=cell_at gd3 0;replace gd3:=hid gd3;replace gx3:=hid gx3;replace gw3:=hid gw3;replace hb3:=hid hb3
   replace hbr3:=hid hbr3;clear gd2 gx2 hb2
   by_cases hk:kind = 2
   ·subst hk
    obtain ⟨-,f1,f2,f3,f4,f5,f6,f7⟩:=ded_cells gd3.out;obtain ⟨x0,x1,x2,x3,x4⟩:=rep_cells gx3.out;have y0:(wr.alloc (.cells #[.int .i64 2,.func (.func 51) #[] #[]] 108)).cell? ⟨wr.heap.size,0,none⟩ = some (.int .i64 2):=cell_at gw3.out 0;have y1:(wr.alloc (.cells #[.int .i64 2,.func (.func 51) #[] #[]] 108)).cell? ⟨wr.heap.size,1,none⟩ = some (.func (.func 51) #[] #[]):=cell_at gw3.out 1;go_wp2_with fail;refine (H2.out trivial _ (hP.out.below hb3.out)).mono ?_
    rintro e w8 ⟨y,vp',pool',c,rfl,hS,hD⟩;obtain ⟨⟨yb,yl,ym⟩,yr⟩:=y;obtain ⟨ab',kb',eb⟩:=hD.ry.b.len;obtain ⟨al',kl',el⟩:=hD.ry.l.len;obtain ⟨am',km',em⟩:=hD.ry.m.len;simp only at eb el em;subst eb el em;rw [show rpV (⟨.slice ab' yr.base.length kb',.slice al' yr.log.length kl',.slice am' yr.mks.length km'⟩,yr) = .agg #[.slice ab' yr.base.length kb',.int .i64 yr.fl.c,.int .i64 yr.fl.r,.slice al' yr.log.length kl',.slice am' yr.mks.length km'] from rfl];have hlp:=lt_of_block hP.out.hp;have s8:=hD.kp.size;simp only [World.size_alloc] at s8
    have g8:=(hD.kp.block w.heap.size (by have:=hsz.out;simp;omega) (fun e => e.elim (fun e => by omega) (fun e => by have:=(hP.out.own.lt _ e).2;omega))).trans gd3.out;obtain ⟨RO,hRO⟩:∃ o:Obj,o = (.cells #[.slice ab' yr.base.length kb',.int .i64 yr.fl.c,.int .i64 yr.fl.r,.slice al' yr.log.length kl',.slice am' yr.mks.length km'] 34):=⟨_,rfl⟩;have g9:=alloc_at RO g8;have z9:=alloc_new w8 RO;have hP9:=hD.pw.below ((Below.refl w8.heap.size w8).alloc (Nat.le_refl _) RO);have hbb:=hP.out.bp
    have hb9:Below base w (w8.alloc RO):=((hb3.out.mono (by omega)).trans hD.be).alloc (by have:=hsz.out;omega) RO;have hk9:=((Kept.of_below (T:=fun k => k = p ∨ vp.ownBlock = some k) hb3.out).trans hD.kp).trans (Kept.of_below ((Below.refl w8.heap.size w8).alloc (Nat.le_refl _) RO));have hy9:RepX (w8.alloc RO) (⟨.slice ab' yr.base.length kb',.slice al' yr.log.length kl',.slice am' yr.mks.length km'⟩,yr):=RepW.below hD.ry ((Below.refl w8.heap.size w8).alloc (Nat.le_refl _) RO);have hnv:=hD.nv;simp only [World.size_alloc] at hnv
    have hsep:∀ j,blocks (⟨.slice ab' yr.base.length kb',.slice al' yr.log.length kl',.slice am' yr.mks.length km'⟩,yr) j → j ≠ p ∧ j ≠ b ∧ vp'.ownBlock ≠ some j:=fun j hj => by
     rcases hD.bl j hj with h | ⟨h,h'⟩
     ·exact hD.pw.sep _ (List.mem_of_getElem? hx.out) j h
     ·have:=lt_of_block hP.out.hb
      have:=hsz.out;simp only [World.size_alloc] at h;exact ⟨by omega,by omega,h'⟩
    subst hRO
    by_cases hc:c = 0
    ·subst hc
     have c1:(w8.alloc (.cells #[.slice ab' yr.base.length kb',.int .i64 yr.fl.c,.int .i64 yr.fl.r,.slice al' yr.log.length kl',.slice am' yr.mks.length km'] 34)).cell? ⟨w.heap.size,1,none⟩ = some (.int .i64 ((k:Int) + 1)):=cell_at g9 1;have p0:(w8.alloc (.cells #[.slice ab' yr.base.length kb',.int .i64 yr.fl.c,.int .i64 yr.fl.r,.slice al' yr.log.length kl',.slice am' yr.mks.length km'] 34)).cell? ⟨p,0,none⟩ = some (.slice (some ⟨b,0,none⟩) xs.length xs.length):=cell_at hP9.hp 0;obtain ⟨q0,q1,q2,q3,q4⟩:=rep_cells z9
     have hw1:IntKind.i64.wrap ((k:Int) + 1 - 1) = (k:Int):=by rw [IntKind.wrap_i64];omega
     have hw2:IntKind.i64.wrap (k:Int) = (k:Int):=by rw [IntKind.wrap_i64];omega
     have e0:(0:Int) ≤ (k:Int) ∧ (k:Int) < (xs.length:Nat):=by omega
     have hfit:k * 5 + 5 ≤ (xs.flatMap repC).length:=by rw [flat_length repC_len];omega
     replace hP9:=hid hP9;replace hb9:=hid hb9;replace hk9:=hid hk9;replace hy9:=hid hy9;have hbl:=hid hD.bl;clear hD;replace g9:=hid g9;replace z9:=hid z9;replace hnv:=hid hnv;replace hsep:=hid hsep;replace hS:=hid hS;clear g8 f0 f1 f2 f3 f4 f5 f6 f7 x0 x1 x2 x3 x4 y0 y1;go_wp2_with fail;generalize w8.alloc _ = W9 at *;obtain ⟨b0,b1',b2,b3,b4⟩:=hP9.out.cells hx.out;have z0:W9.frozen? ⟨b,k * 5,none⟩ = false:=free_at hP9.out.hb (k * 5);have z1:W9.frozen? ⟨b,k * 5 + 1,none⟩ = false:=free_at hP9.out.hb (k * 5 + 1)
     have z2:W9.frozen? ⟨b,k * 5 + 2,none⟩ = false:=free_at hP9.out.hb (k * 5 + 2);have z3:W9.frozen? ⟨b,k * 5 + 3,none⟩ = false:=free_at hP9.out.hb (k * 5 + 3);have z4:W9.frozen? ⟨b,k * 5 + 4,none⟩ = false:=free_at hP9.out.hb (k * 5 + 4)
     go_region
     all_goals
      go_wp2_with fail;go_ret;exact step_fin hP9.out hx.out rfl hy9.out hsep.out hS.out hb9.out hk9.out hnv.out (fun j hj => (hbl.out j hj).imp id (fun h => by have:=h.1;simp only [World.size_alloc] at this;omega)) (by have:=hsz.out;omega)
    ·have tc:((c:Int) == 0) = false:=by rw [beq_eq_false_iff_ne];exact hc
     replace hP9:=hid hP9;replace hb9:=hid hb9;replace hk9:=hid hk9;replace hnv:=hid hnv;replace hS:=hid hS;clear hD g9 z9 hy9 hsep g8 f0 f1 f2 f3 f4 f5 f6 f7 x0 x1 x2 x3 x4 y0 y1;go_wp2_with fail;go_ret;exact ⟨vp',xs,pool',c,rfl,.inr ⟨k,r,yr,by rw [List.getElem?_map,hx.out];rfl,rfl,hS.out,by rw [if_neg hc]⟩,hP9.out,hb9.out,hk9.out.mono (fun _ _ e => e.imp id .inr),pb_vp hnv.out (by have:=hsz.out;omega)⟩
   ·have tk:((2:Int) == kind) = false:=by rw [beq_eq_false_iff_ne];exact fun e => hk e.symm
    replace hk:=hid hk;go_wp2_with fail
    go_roundw
    case rel => exact ⟨2,rfl,by omega,hbr3,hid (fun z hz => by exact (show z < 1 ∨ z = 1 by omega).elim (fun h => hno.out z h) (fun e => by subst e;exact hk.out))⟩
    case measure => simp [intOf]
  ·have gd3:=alloc_at (.cells #[.int .i64 3,.func (.func 52) #[] #[]] 108) gd2
   have gx3:=alloc_at (.cells #[.int .i64 3,.func (.func 52) #[] #[]] 108) gx2;have gw3:=alloc_new wr (.cells #[.int .i64 3,.func (.func 52) #[] #[]] 108);have hb3:=hb2.alloc (by have:=hsz.out;omega) (.cells #[.int .i64 3,.func (.func 52) #[] #[]] 108);have hbr3:=hbr.out.alloc hsr (.cells #[.int .i64 3,.func (.func 52) #[] #[]] 108);have f0:(wr.alloc (.cells #[.int .i64 3,.func (.func 52) #[] #[]] 108)).cell? ⟨w.heap.size,0,none⟩ = some (.int .i64 kind):=cell_at gd3 0;replace gd3:=hid gd3;replace gx3:=hid gx3;replace gw3:=hid gw3;replace hb3:=hid hb3
   replace hbr3:=hid hbr3;clear gd2 gx2 hb2
   by_cases hk:kind = 3
   ·subst hk
    obtain ⟨-,f1,f2,f3,f4,f5,f6,f7⟩:=ded_cells gd3.out;obtain ⟨x0,x1,x2,x3,x4⟩:=rep_cells gx3.out;have y0:(wr.alloc (.cells #[.int .i64 3,.func (.func 52) #[] #[]] 108)).cell? ⟨wr.heap.size,0,none⟩ = some (.int .i64 3):=cell_at gw3.out 0;have y1:(wr.alloc (.cells #[.int .i64 3,.func (.func 52) #[] #[]] 108)).cell? ⟨wr.heap.size,1,none⟩ = some (.func (.func 52) #[] #[]):=cell_at gw3.out 1;go_wp2_with fail;refine (H3.out trivial _ (hP.out.below hb3.out)).mono ?_
    rintro e w8 ⟨y,vp',pool',c,rfl,hS,hD⟩;obtain ⟨⟨yb,yl,ym⟩,yr⟩:=y;obtain ⟨ab',kb',eb⟩:=hD.ry.b.len;obtain ⟨al',kl',el⟩:=hD.ry.l.len;obtain ⟨am',km',em⟩:=hD.ry.m.len;simp only at eb el em;subst eb el em;rw [show rpV (⟨.slice ab' yr.base.length kb',.slice al' yr.log.length kl',.slice am' yr.mks.length km'⟩,yr) = .agg #[.slice ab' yr.base.length kb',.int .i64 yr.fl.c,.int .i64 yr.fl.r,.slice al' yr.log.length kl',.slice am' yr.mks.length km'] from rfl];have hlp:=lt_of_block hP.out.hp;have s8:=hD.kp.size;simp only [World.size_alloc] at s8
    have g8:=(hD.kp.block w.heap.size (by have:=hsz.out;simp;omega) (fun e => e.elim (fun e => by omega) (fun e => by have:=(hP.out.own.lt _ e).2;omega))).trans gd3.out;obtain ⟨RO,hRO⟩:∃ o:Obj,o = (.cells #[.slice ab' yr.base.length kb',.int .i64 yr.fl.c,.int .i64 yr.fl.r,.slice al' yr.log.length kl',.slice am' yr.mks.length km'] 34):=⟨_,rfl⟩;have g9:=alloc_at RO g8;have z9:=alloc_new w8 RO;have hP9:=hD.pw.below ((Below.refl w8.heap.size w8).alloc (Nat.le_refl _) RO);have hbb:=hP.out.bp
    have hb9:Below base w (w8.alloc RO):=((hb3.out.mono (by omega)).trans hD.be).alloc (by have:=hsz.out;omega) RO;have hk9:=((Kept.of_below (T:=fun k => k = p ∨ vp.ownBlock = some k) hb3.out).trans hD.kp).trans (Kept.of_below ((Below.refl w8.heap.size w8).alloc (Nat.le_refl _) RO));have hy9:RepX (w8.alloc RO) (⟨.slice ab' yr.base.length kb',.slice al' yr.log.length kl',.slice am' yr.mks.length km'⟩,yr):=RepW.below hD.ry ((Below.refl w8.heap.size w8).alloc (Nat.le_refl _) RO);have hnv:=hD.nv;simp only [World.size_alloc] at hnv
    have hsep:∀ j,blocks (⟨.slice ab' yr.base.length kb',.slice al' yr.log.length kl',.slice am' yr.mks.length km'⟩,yr) j → j ≠ p ∧ j ≠ b ∧ vp'.ownBlock ≠ some j:=fun j hj => by
     rcases hD.bl j hj with h | ⟨h,h'⟩
     ·exact hD.pw.sep _ (List.mem_of_getElem? hx.out) j h
     ·have:=lt_of_block hP.out.hb
      have:=hsz.out;simp only [World.size_alloc] at h;exact ⟨by omega,by omega,h'⟩
    subst hRO
    by_cases hc:c = 0
    ·subst hc
     have c1:(w8.alloc (.cells #[.slice ab' yr.base.length kb',.int .i64 yr.fl.c,.int .i64 yr.fl.r,.slice al' yr.log.length kl',.slice am' yr.mks.length km'] 34)).cell? ⟨w.heap.size,1,none⟩ = some (.int .i64 ((k:Int) + 1)):=cell_at g9 1;have p0:(w8.alloc (.cells #[.slice ab' yr.base.length kb',.int .i64 yr.fl.c,.int .i64 yr.fl.r,.slice al' yr.log.length kl',.slice am' yr.mks.length km'] 34)).cell? ⟨p,0,none⟩ = some (.slice (some ⟨b,0,none⟩) xs.length xs.length):=cell_at hP9.hp 0;obtain ⟨q0,q1,q2,q3,q4⟩:=rep_cells z9
     have hw1:IntKind.i64.wrap ((k:Int) + 1 - 1) = (k:Int):=by rw [IntKind.wrap_i64];omega
     have hw2:IntKind.i64.wrap (k:Int) = (k:Int):=by rw [IntKind.wrap_i64];omega
     have e0:(0:Int) ≤ (k:Int) ∧ (k:Int) < (xs.length:Nat):=by omega
     have hfit:k * 5 + 5 ≤ (xs.flatMap repC).length:=by rw [flat_length repC_len];omega
     replace hP9:=hid hP9;replace hb9:=hid hb9;replace hk9:=hid hk9;replace hy9:=hid hy9;have hbl:=hid hD.bl;clear hD;replace g9:=hid g9;replace z9:=hid z9;replace hnv:=hid hnv;replace hsep:=hid hsep;replace hS:=hid hS;clear g8 f0 f1 f2 f3 f4 f5 f6 f7 x0 x1 x2 x3 x4 y0 y1;go_wp2_with fail;generalize w8.alloc _ = W9 at *;obtain ⟨b0,b1',b2,b3,b4⟩:=hP9.out.cells hx.out;have z0:W9.frozen? ⟨b,k * 5,none⟩ = false:=free_at hP9.out.hb (k * 5);have z1:W9.frozen? ⟨b,k * 5 + 1,none⟩ = false:=free_at hP9.out.hb (k * 5 + 1)
     have z2:W9.frozen? ⟨b,k * 5 + 2,none⟩ = false:=free_at hP9.out.hb (k * 5 + 2);have z3:W9.frozen? ⟨b,k * 5 + 3,none⟩ = false:=free_at hP9.out.hb (k * 5 + 3);have z4:W9.frozen? ⟨b,k * 5 + 4,none⟩ = false:=free_at hP9.out.hb (k * 5 + 4)
     go_region
     all_goals
      go_wp2_with fail;go_ret;exact step_fin hP9.out hx.out rfl hy9.out hsep.out hS.out hb9.out hk9.out hnv.out (fun j hj => (hbl.out j hj).imp id (fun h => by have:=h.1;simp only [World.size_alloc] at this;omega)) (by have:=hsz.out;omega)
    ·have tc:((c:Int) == 0) = false:=by rw [beq_eq_false_iff_ne];exact hc
     replace hP9:=hid hP9;replace hb9:=hid hb9;replace hk9:=hid hk9;replace hnv:=hid hnv;replace hS:=hid hS;clear hD g9 z9 hy9 hsep g8 f0 f1 f2 f3 f4 f5 f6 f7 x0 x1 x2 x3 x4 y0 y1;go_wp2_with fail;go_ret;exact ⟨vp',xs,pool',c,rfl,.inr ⟨k,r,yr,by rw [List.getElem?_map,hx.out];rfl,rfl,hS.out,by rw [if_neg hc]⟩,hP9.out,hb9.out,hk9.out.mono (fun _ _ e => e.imp id .inr),pb_vp hnv.out (by have:=hsz.out;omega)⟩
   ·have tk:((3:Int) == kind) = false:=by rw [beq_eq_false_iff_ne];exact fun e => hk e.symm
    replace hk:=hid hk;go_wp2_with fail
    go_roundw
    case rel => exact ⟨3,rfl,by omega,hbr3,hid (fun z hz => by exact (show z < 2 ∨ z = 2 by omega).elim (fun h => hno.out z h) (fun e => by subst e;exact hk.out))⟩
    case measure => simp [intOf]
  ·have gd3:=alloc_at (.cells #[.int .i64 4,.func (.func 53) #[] #[]] 108) gd2
   have gx3:=alloc_at (.cells #[.int .i64 4,.func (.func 53) #[] #[]] 108) gx2;have gw3:=alloc_new wr (.cells #[.int .i64 4,.func (.func 53) #[] #[]] 108);have hb3:=hb2.alloc (by have:=hsz.out;omega) (.cells #[.int .i64 4,.func (.func 53) #[] #[]] 108);have hbr3:=hbr.out.alloc hsr (.cells #[.int .i64 4,.func (.func 53) #[] #[]] 108);have f0:(wr.alloc (.cells #[.int .i64 4,.func (.func 53) #[] #[]] 108)).cell? ⟨w.heap.size,0,none⟩ = some (.int .i64 kind):=cell_at gd3 0;replace gd3:=hid gd3;replace gx3:=hid gx3;replace gw3:=hid gw3;replace hb3:=hid hb3
   replace hbr3:=hid hbr3;clear gd2 gx2 hb2
   by_cases hk:kind = 4
   ·subst hk
    obtain ⟨-,f1,f2,f3,f4,f5,f6,f7⟩:=ded_cells gd3.out;obtain ⟨x0,x1,x2,x3,x4⟩:=rep_cells gx3.out;have y0:(wr.alloc (.cells #[.int .i64 4,.func (.func 53) #[] #[]] 108)).cell? ⟨wr.heap.size,0,none⟩ = some (.int .i64 4):=cell_at gw3.out 0;have y1:(wr.alloc (.cells #[.int .i64 4,.func (.func 53) #[] #[]] 108)).cell? ⟨wr.heap.size,1,none⟩ = some (.func (.func 53) #[] #[]):=cell_at gw3.out 1;go_wp2_with fail;refine (H4.out trivial _ (hP.out.below hb3.out)).mono ?_
    rintro e w8 ⟨y,vp',pool',c,rfl,hS,hD⟩;obtain ⟨⟨yb,yl,ym⟩,yr⟩:=y;obtain ⟨ab',kb',eb⟩:=hD.ry.b.len;obtain ⟨al',kl',el⟩:=hD.ry.l.len;obtain ⟨am',km',em⟩:=hD.ry.m.len;simp only at eb el em;subst eb el em;rw [show rpV (⟨.slice ab' yr.base.length kb',.slice al' yr.log.length kl',.slice am' yr.mks.length km'⟩,yr) = .agg #[.slice ab' yr.base.length kb',.int .i64 yr.fl.c,.int .i64 yr.fl.r,.slice al' yr.log.length kl',.slice am' yr.mks.length km'] from rfl];have hlp:=lt_of_block hP.out.hp;have s8:=hD.kp.size;simp only [World.size_alloc] at s8
    have g8:=(hD.kp.block w.heap.size (by have:=hsz.out;simp;omega) (fun e => e.elim (fun e => by omega) (fun e => by have:=(hP.out.own.lt _ e).2;omega))).trans gd3.out;obtain ⟨RO,hRO⟩:∃ o:Obj,o = (.cells #[.slice ab' yr.base.length kb',.int .i64 yr.fl.c,.int .i64 yr.fl.r,.slice al' yr.log.length kl',.slice am' yr.mks.length km'] 34):=⟨_,rfl⟩;have g9:=alloc_at RO g8;have z9:=alloc_new w8 RO;have hP9:=hD.pw.below ((Below.refl w8.heap.size w8).alloc (Nat.le_refl _) RO);have hbb:=hP.out.bp
    have hb9:Below base w (w8.alloc RO):=((hb3.out.mono (by omega)).trans hD.be).alloc (by have:=hsz.out;omega) RO;have hk9:=((Kept.of_below (T:=fun k => k = p ∨ vp.ownBlock = some k) hb3.out).trans hD.kp).trans (Kept.of_below ((Below.refl w8.heap.size w8).alloc (Nat.le_refl _) RO));have hy9:RepX (w8.alloc RO) (⟨.slice ab' yr.base.length kb',.slice al' yr.log.length kl',.slice am' yr.mks.length km'⟩,yr):=RepW.below hD.ry ((Below.refl w8.heap.size w8).alloc (Nat.le_refl _) RO);have hnv:=hD.nv;simp only [World.size_alloc] at hnv
    have hsep:∀ j,blocks (⟨.slice ab' yr.base.length kb',.slice al' yr.log.length kl',.slice am' yr.mks.length km'⟩,yr) j → j ≠ p ∧ j ≠ b ∧ vp'.ownBlock ≠ some j:=fun j hj => by
     rcases hD.bl j hj with h | ⟨h,h'⟩
     ·exact hD.pw.sep _ (List.mem_of_getElem? hx.out) j h
     ·have:=lt_of_block hP.out.hb
      have:=hsz.out;simp only [World.size_alloc] at h;exact ⟨by omega,by omega,h'⟩
    subst hRO
    by_cases hc:c = 0
    ·subst hc
     have c1:(w8.alloc (.cells #[.slice ab' yr.base.length kb',.int .i64 yr.fl.c,.int .i64 yr.fl.r,.slice al' yr.log.length kl',.slice am' yr.mks.length km'] 34)).cell? ⟨w.heap.size,1,none⟩ = some (.int .i64 ((k:Int) + 1)):=cell_at g9 1;have p0:(w8.alloc (.cells #[.slice ab' yr.base.length kb',.int .i64 yr.fl.c,.int .i64 yr.fl.r,.slice al' yr.log.length kl',.slice am' yr.mks.length km'] 34)).cell? ⟨p,0,none⟩ = some (.slice (some ⟨b,0,none⟩) xs.length xs.length):=cell_at hP9.hp 0;obtain ⟨q0,q1,q2,q3,q4⟩:=rep_cells z9
     have hw1:IntKind.i64.wrap ((k:Int) + 1 - 1) = (k:Int):=by rw [IntKind.wrap_i64];omega
     have hw2:IntKind.i64.wrap (k:Int) = (k:Int):=by rw [IntKind.wrap_i64];omega
     have e0:(0:Int) ≤ (k:Int) ∧ (k:Int) < (xs.length:Nat):=by omega
     have hfit:k * 5 + 5 ≤ (xs.flatMap repC).length:=by rw [flat_length repC_len];omega
     replace hP9:=hid hP9;replace hb9:=hid hb9;replace hk9:=hid hk9;replace hy9:=hid hy9;have hbl:=hid hD.bl;clear hD;replace g9:=hid g9;replace z9:=hid z9;replace hnv:=hid hnv;replace hsep:=hid hsep;replace hS:=hid hS;clear g8 f0 f1 f2 f3 f4 f5 f6 f7 x0 x1 x2 x3 x4 y0 y1;go_wp2_with fail;generalize w8.alloc _ = W9 at *;obtain ⟨b0,b1',b2,b3,b4⟩:=hP9.out.cells hx.out;have z0:W9.frozen? ⟨b,k * 5,none⟩ = false:=free_at hP9.out.hb (k * 5);have z1:W9.frozen? ⟨b,k * 5 + 1,none⟩ = false:=free_at hP9.out.hb (k * 5 + 1)
     have z2:W9.frozen? ⟨b,k * 5 + 2,none⟩ = false:=free_at hP9.out.hb (k * 5 + 2);have z3:W9.frozen? ⟨b,k * 5 + 3,none⟩ = false:=free_at hP9.out.hb (k * 5 + 3);have z4:W9.frozen? ⟨b,k * 5 + 4,none⟩ = false:=free_at hP9.out.hb (k * 5 + 4)
     go_region
     all_goals
      go_wp2_with fail;go_ret;exact step_fin hP9.out hx.out rfl hy9.out hsep.out hS.out hb9.out hk9.out hnv.out (fun j hj => (hbl.out j hj).imp id (fun h => by have:=h.1;simp only [World.size_alloc] at this;omega)) (by have:=hsz.out;omega)
    ·have tc:((c:Int) == 0) = false:=by rw [beq_eq_false_iff_ne];exact hc
     replace hP9:=hid hP9;replace hb9:=hid hb9;replace hk9:=hid hk9;replace hnv:=hid hnv;replace hS:=hid hS;clear hD g9 z9 hy9 hsep g8 f0 f1 f2 f3 f4 f5 f6 f7 x0 x1 x2 x3 x4 y0 y1;go_wp2_with fail;go_ret;exact ⟨vp',xs,pool',c,rfl,.inr ⟨k,r,yr,by rw [List.getElem?_map,hx.out];rfl,rfl,hS.out,by rw [if_neg hc]⟩,hP9.out,hb9.out,hk9.out.mono (fun _ _ e => e.imp id .inr),pb_vp hnv.out (by have:=hsz.out;omega)⟩
   ·have tk:((4:Int) == kind) = false:=by rw [beq_eq_false_iff_ne];exact fun e => hk e.symm
    replace hk:=hid hk;go_wp2_with fail
    go_roundw
    case rel => exact ⟨4,rfl,by omega,hbr3,hid (fun z hz => by exact (show z < 3 ∨ z = 3 by omega).elim (fun h => hno.out z h) (fun e => by subst e;exact hk.out))⟩
    case measure => simp [intOf]
  ·go_wp2_with fail
   go_ret;refine ⟨vp,xs,pool,1,rfl,.inl ⟨rfl,rfl,rfl,.inr ⟨hno.out 0 (by omega),hno.out 1 (by omega),hno.out 2 (by omega),hno.out 3 (by omega)⟩⟩,hP.out.below hb2,hb2.mono (Nat.le_trans hP.out.bp (Nat.le_of_lt (lt_of_block hP.out.hp))),Kept.of_below hb2,fun _ e => .inl e⟩
end Pl
end
section
open Go.RowKit Go.Shelf
namespace Iv
open Mem Tp Tr Mo Fo Sn Og St Pl
structure InvS (j:Nat) (rs:List Rp) (pool:List Mv):Prop where
 r:∀ x ∈ rs,InvR j x
 p:pool.length ≤ j
 one:∀ m ∈ pool,oneM m = true ∧ m.rk < 2 * Fl.S
theorem InvS.mono {i j:Nat} {rs:List Rp} {pool:List Mv} (h:InvS i rs pool) (hij:i ≤ j):InvS j rs pool:=⟨fun x hx => (h.r x hx).mono hij,Nat.le_trans h.p hij,h.one⟩
theorem inv_start (n:Nat):InvS 0 (List.replicate n r0) []:=⟨fun x hx => by rw [List.eq_of_mem_replicate hx];exact inv_r0,Nat.le_refl _,fun m hm => by simp at hm⟩
theorem localR_cases {r:Rp} {d:Dd} {pool pool':List Mv} {r':Rp} {c:Int} (h:(r',pool',c) = localR r d pool):(c = 10 ∧ r' = r ∧ pool' = pool) ∨ ∃ t,nextM r.mks r.fl d.who = some t ∧ r' = (addR r (mvOf t d)).1 ∧ c = (addR r (mvOf t d)).2.2 ∧ ((c = 0 ∧ pool' = pool ++ [mvOf t d]) ∨ (c ≠ 0 ∧ pool' = pool)):=by
 unfold localR at h
 cases hn:nextM r.mks r.fl d.who with
 | none =>
  rw [hn] at h;simp only [Prod.mk.injEq] at h;exact .inl ⟨h.2.2,h.1,h.2.1⟩
 | some t =>
  rw [hn] at h;simp only at h;refine .inr ⟨t,rfl,?_⟩
  by_cases hc:(addR r (mvOf t d)).2.2 = 0
  ·rw [if_pos hc] at h
   simp only [Prod.mk.injEq] at h;exact ⟨h.1,by rw [h.2.2,hc],.inl ⟨h.2.2,h.2.1⟩⟩
  ·rw [if_neg hc] at h
   simp only [Prod.mk.injEq] at h;exact ⟨h.1,h.2.2,.inr ⟨by rw [h.2.2];exact hc,h.2.1⟩⟩
theorem inv_deed {j:Nat} {r r':Rp} {d:Dd} {pool pool':List Mv} {c:Int} (hr:InvR j r) (hp:pool.length ≤ j) (ho:∀ m ∈ pool,oneM m = true ∧ m.rk < 2 * Fl.S) (hk:d.rk < 2 * Fl.S) (h:StepR r d pool r' pool' c) :
  InvR (j + 1) r' ∧ pool'.length ≤ j + 1 ∧ ∀ m ∈ pool',oneM m = true ∧ m.rk < 2 * Fl.S:=by
 rcases h with ⟨-,h⟩ | ⟨-,rfl,h⟩ | ⟨-,rfl,h⟩ | ⟨-,rfl,h,-⟩
 ·rcases localR_cases h with ⟨-,rfl,rfl⟩ | ⟨t,-,rfl,hc,hp'⟩
  ·exact ⟨hr.mono (Nat.le_succ j),by omega,ho⟩
  ·refine ⟨inv_add hr hk,?_⟩
   rcases hp' with ⟨h0,rfl⟩ | ⟨-,rfl⟩
   ·refine ⟨by rw [List.length_append,List.length_singleton];omega,fun m hm => ?_⟩
    rcases List.mem_append.1 hm with hm | hm
    ·exact ho m hm
    ·rw [List.mem_singleton.1 hm]
     exact ⟨(addR_one (hc.symm.trans h0)).1,hk⟩
   ·exact ⟨by omega,ho⟩
 ·refine ⟨?_,by omega,ho⟩
  rcases h with ⟨-,rfl,-⟩ | ⟨k,m,hm,-,rfl,-⟩
  ·exact hr.mono (Nat.le_succ j)
  ·exact inv_add hr (ho m (List.mem_of_getElem? hm)).2
 ·refine ⟨?_,by omega,ho⟩
  have h1:r' = (pruneR r ⟨d.at_,d.frm⟩).1:=congrArg Prod.fst h;rw [h1];exact (inv_prune hr _).mono (Nat.le_succ j)
 ·exact ⟨(inv_eq hr h).mono (Nat.le_succ j),by omega,ho⟩
theorem inv_step {j:Nat} {rs rs':List Rp} {pool pool':List Mv} {d:Dd} {c:Int} (h:InvS j rs pool) (hk:d.rk < 2 * Fl.S) (hs:StepS rs pool d rs' pool' c):InvS (j + 1) rs' pool':=by
 rcases hs with ⟨-,rfl,rfl,-⟩ | ⟨k,r,r',hr,-,hs,rfl⟩
 ·exact h.mono (Nat.le_succ j)
 ·have hd:=inv_deed (h.r r (List.mem_of_getElem? hr)) h.p h.one hk hs
  refine ⟨fun x hx => ?_,hd.2.1,hd.2.2⟩
  split at hx
  ·rcases List.mem_or_eq_of_mem_set hx with hx | rfl
   ·exact (h.r x hx).mono (Nat.le_succ j)
   ·exact hd.1
  ·exact (h.r x hx).mono (Nat.le_succ j)
theorem step_len {rs rs':List Rp} {pool pool':List Mv} {d:Dd} {c:Int} (hs:StepS rs pool d rs' pool' c):rs'.length = rs.length:=by
 rcases hs with ⟨-,rfl,rfl,-⟩ | ⟨k,r,r',hr,-,hs,rfl⟩
 ·rfl
 ·split
  ·rw [List.length_set]
  ·rfl
inductive RunS (n:Nat):List Dd → List Rp → List Mv → List Int → Prop
 | nil:RunS n [] (List.replicate n r0) [] []
 | snoc {l:List Dd} {rs:List Rp} {pool:List Mv} {cs:List Int} {d:Dd} {rs':List Rp} {pool':List Mv} {c:Int}:RunS n l rs pool cs → StepS rs pool d rs' pool' c → RunS n (l ++ [d]) rs' pool' (cs ++ [c])
theorem RunS.len {n:Nat} {l:List Dd} {rs:List Rp} {pool:List Mv} {cs:List Int} (h:RunS n l rs pool cs):rs.length = n ∧ cs.length = l.length:=by
 induction h with
 | nil => exact ⟨List.length_replicate,rfl⟩
 | snoc _ hs ih => exact ⟨(step_len hs).trans ih.1,by rw [List.length_append,List.length_append,ih.2];rfl⟩
theorem RunS.inv {n:Nat} {l:List Dd} {rs:List Rp} {pool:List Mv} {cs:List Int} (h:RunS n l rs pool cs) (hk:∀ d ∈ l,d.rk < 2 * Fl.S):InvS l.length rs pool:=by
 induction h with
 | nil => exact inv_start n
 | snoc _ hs ih =>
  rw [List.length_append,List.length_singleton];exact inv_step (ih (fun d hd => hk d (List.mem_append_left _ hd))) (hk _ (List.mem_append_right _ (List.mem_singleton.2 rfl))) hs
theorem InvS.okR {j:Nat} {rs:List Rp} {pool:List Mv} (h:InvS j rs pool) (hj:j ≤ 45):∀ x ∈ rs,OkR x:=fun x hx => (h.r x hx).ok hj
theorem InvS.nm {j:Nat} {rs:List Rp} {pool:List Mv} (h:InvS j rs pool):∀ m ∈ pool,m.nm.size ≤ 64:=fun m hm => by
 have:=(oneR_in (oneM_in (h.one m hm).1).2).1;unfold rowOf at this;exact this.2.2.2.2
end Iv
namespace Pl
open Mem Tp Tr Mo Fo Sn Og St Iv
theorem step_any {base p b:Nat} {vp:Value} {xs:List X3} {pool:List Mv} (d:Dd) (w:World) (hP:PW w base p b vp xs pool) (hO:∀ x ∈ xs,OkR x.2) (hz:d.nm.size ≤ 100000) (hpl:pool.length ≤ 1000) (hpz:∀ m ∈ pool,m.nm.size ≤ 100000) :
  Calls Tryz.prog 23 #[.pointer (some ⟨p,0,none⟩),dedV d] w (StepC base p b vp xs pool d w):=by
 by_cases hw:d.who < 1 ∨ (xs.length:Int) < d.who
 ·exact step_not d w hP hw
 ·obtain ⟨k,hk⟩:∃ k:Nat,d.who = (k:Int) + 1:=⟨(d.who - 1).toNat,by omega⟩
  obtain ⟨x,hx⟩:=some_at (l:=xs) (k:=k) (by omega);have hm:=List.mem_of_getElem? hx;exact step_in x d k w hP hx hk (fun e W h => did_local x d W h hm (hO x hm) hz hpl e) (fun e W h => did_deliver x d W h hm (hO x hm) hpz e) (fun e W h => did_prune x d W h hm (hO x hm) e) (fun e W h => did_reload x d W h hm (hO x hm) e)
end Pl
end
section
open Go.RowKit Go.Shelf
namespace Iv
open Mem Tp Tr Mo Fo Sn Og St Pl
theorem RunS.last {n:Nat} {l:List Dd} {d:Dd} {rs:List Rp} {pool:List Mv} {cs:List Int} (h:RunS n (l ++ [d]) rs pool cs):∃ rs0 pool0 cs0 c,RunS n l rs0 pool0 cs0 ∧ StepS rs0 pool0 d rs pool c ∧ cs = cs0 ++ [c]:=by
 generalize hL:l ++ [d] = L at h
 cases h with
 | nil => simp at hL
 | snoc h1 h2 =>
  obtain ⟨rfl,e⟩:=List.append_inj' hL rfl
  cases e
  exact ⟨_,_,_,_,h1,h2,rfl⟩
theorem RunS.first {n:Nat} {rs:List Rp} {pool:List Mv} {cs:List Int} (h:RunS n [] rs pool cs):rs = List.replicate n r0 ∧ pool = [] ∧ cs = []:=by
 generalize hL:([]:List Dd) = L at h
 cases h with
 | nil => exact ⟨rfl,rfl,rfl⟩
 | snoc h1 h2 => simp at hL
theorem step_of {rs rs':List Rp} {pool pool':List Mv} {d:Dd} {c:Int} {k:Nat} {r:Rp} (h:StepS rs pool d rs' pool' c) (hw:d.who = (k:Int) + 1) (hr:rs[k]? = some r) (hk:d.kind = 1 ∨ d.kind = 2 ∨ d.kind = 3 ∨ d.kind = 4):∃ r',StepR r d pool r' pool' c ∧ rs' = if c = 0 then rs.set k r' else rs:=by
 have hkl:=(List.getElem?_eq_some_iff.1 hr).1
 rcases h with ⟨-,-,-,h⟩ | ⟨k',r',r'',hr',hw',hs,e⟩
 ·omega
 ·obtain rfl:k' = k:=by omega
  rw [hr] at hr'
  cases hr'
  exact ⟨r'',hs,e⟩
def nmA:ByteArray:=⟨#[97]⟩
def d1:Dd:=⟨1,1,0,0,0,1,nmA,0⟩
def d2:Dd:=⟨2,2,0,0,0,0,ByteArray.empty,0⟩
def d3:Dd:=⟨4,2,0,0,0,0,ByteArray.empty,0⟩
def d4:Dd:=⟨1,2,0,0,1,2,ByteArray.empty,0⟩
def m1:Mv:=⟨⟨1,1⟩,0,1,nmA,0⟩
def m2:Mv:=⟨⟨2,2⟩,1,2,ByteArray.empty,0⟩
def ra:Rp:=⟨[],⟨0,0⟩,[m1],[⟨1,1⟩]⟩
theorem loc1:localR r0 d1 [] = (ra,[m1],0):=by kernel_rfl
theorem del2:addR r0 m1 = (ra,true,0):=by kernel_rfl
theorem one2:oneM m2 = true:=by kernel_rfl
theorem works_plain {rs:List Rp} {pool:List Mv} {cs:List Int} (h:RunS 2 [d1,d2,d3,d4] rs pool cs):∃ (r:Rp) (m:Mv),rs[1]? = some r ∧ cs.length = 4 ∧ cs[3]? = some 0 ∧ treeR r = [⟨1,0,m.nm,m.rk⟩,⟨2,1,ByteArray.empty,0⟩]:=by
 obtain ⟨rs3,p3,c3,e4,h3,s4,rfl⟩:=RunS.last (l:=[d1,d2,d3]) h;obtain ⟨rs2,p2,c2,e3,h2,s3,rfl⟩:=RunS.last (l:=[d1,d2]) h3;obtain ⟨rs1,p1,c1,e2,h1,s2,rfl⟩:=RunS.last (l:=[d1]) h2;obtain ⟨rs0,p0,c0,e1,h0,s1,rfl⟩:=RunS.last (l:=[]) h1;obtain ⟨rfl,rfl,rfl⟩:=h0.first;obtain ⟨y1,q1,rfl⟩:=step_of s1 (k:=0) rfl rfl (.inl rfl)
 have q1':(y1,p1,e1) = (ra,[m1],0):=by
  rcases q1 with ⟨-,e⟩ | ⟨e,-⟩ | ⟨e,-⟩ | ⟨e,-⟩
  ·exact e.trans loc1
  ·exact absurd e (by decide)
  ·exact absurd e (by decide)
  ·exact absurd e (by decide)
 simp only [Prod.mk.injEq] at q1';obtain ⟨rfl,rfl,rfl⟩:=q1';obtain ⟨y2,q2,rfl⟩:=step_of s2 (k:=1) (r:=r0) rfl rfl (.inr (.inl rfl))
 have q2':y2 = ra ∧ p2 = [m1] ∧ e2 = 0:=by
  rcases q2 with ⟨e,-⟩ | ⟨-,e1,e⟩ | ⟨e,-⟩ | ⟨e,-⟩
  ·exact absurd e (by decide)
  ·rcases e with ⟨e,-,-⟩ | ⟨k,m,hm,ek,e3,e4⟩
   ·exact absurd e (by decide)
   ·have hk:k = 0:=by
     have:(0:Int) = (k:Int):=ek;omega
    subst hk
    cases hm
    rw [del2] at e3 e4;exact ⟨e3,e1,e4⟩
  ·exact absurd e (by decide)
  ·exact absurd e (by decide)
 obtain ⟨rfl,rfl,rfl⟩:=q2';obtain ⟨y3,q3,rfl⟩:=step_of s3 (k:=1) (r:=ra) rfl rfl (.inr (.inr (.inr rfl)))
 have q3':EqP ra y3 ∧ p3 = [m1] ∧ e3 = 0:=by
  rcases q3 with ⟨e,-⟩ | ⟨e,-⟩ | ⟨e,-⟩ | ⟨-,e,e1,e2⟩
  ·exact absurd e (by decide)
  ·exact absurd e (by decide)
  ·exact absurd e (by decide)
  ·exact ⟨e1,e,e2⟩
 obtain ⟨hE,rfl,rfl⟩:=q3';obtain ⟨y4,q4,rfl⟩:=step_of s4 (k:=1) (r:=y3) rfl rfl (.inl rfl);have hb:y3.base = []:=List.length_eq_zero_iff.1 (by rw [nrm_len hE.b.1];rfl);have hf:y3.fl = ⟨0,0⟩:=hE.f;have hm:y3.mks = [⟨1,1⟩]:=hE.m
 obtain ⟨m,hl,hmt⟩:∃ m,y3.log = [m] ∧ nrmM m = nrmM m1:=by
  have h1:=hE.l.1;have h2:y3.log.length = 1:=len_eqM h1
  match hy:y3.log,h2 with
  | [m],_ =>
   rw [hy] at h1;exact ⟨m,rfl,by simpa [ra] using h1⟩
 obtain ⟨t,pa,ch,nm,rk⟩:=m;have ht:t = ⟨1,1⟩:=congrArg Mv.t hmt;have hpa:pa = 0:=congrArg Mv.pa hmt;have hch:ch = 1:=congrArg Mv.ch hmt;subst ht hpa hch;obtain ⟨b3,f3,l3,k3⟩:=y3;simp only at hb hf hm hl;subst hb hf hm hl;have ha:addR ⟨[],⟨0,0⟩,[⟨⟨1,1⟩,0,1,nm,rk⟩],[⟨1,1⟩]⟩ (mvOf ⟨2,2⟩ d4) = (⟨[],⟨0,0⟩,[⟨⟨1,1⟩,0,1,nm,rk⟩,m2],[⟨1,1⟩,⟨2,2⟩]⟩,true,0):=addR_yes one2 rfl rfl
 have hloc:localR ⟨[],⟨0,0⟩,[⟨⟨1,1⟩,0,1,nm,rk⟩],[⟨1,1⟩]⟩ d4 [m1] = (⟨[],⟨0,0⟩,[⟨⟨1,1⟩,0,1,nm,rk⟩,m2],[⟨1,1⟩,⟨2,2⟩]⟩,[m1,m2],0):=by
  unfold localR;rw [show nextM [⟨1,1⟩] ⟨0,0⟩ d4.who = some ⟨2,2⟩ from rfl];simp only [ha]
  rfl
 have q4':(y4,pool,e4) = ((⟨[],⟨0,0⟩,[⟨⟨1,1⟩,0,1,nm,rk⟩,m2],[⟨1,1⟩,⟨2,2⟩]⟩,[m1,m2],0):Rp × List Mv × Int):=by
  rcases q4 with ⟨-,e⟩ | ⟨e,-⟩ | ⟨e,-⟩ | ⟨e,-⟩
  ·exact e.trans hloc
  ·exact absurd e (by decide)
  ·exact absurd e (by decide)
  ·exact absurd e (by decide)
 simp only [Prod.mk.injEq] at q4';obtain ⟨rfl,rfl,rfl⟩:=q4';exact ⟨_,⟨⟨1,1⟩,0,1,nm,rk⟩,rfl,rfl,rfl,rfl⟩
end Iv
end
section
open Go.RowKit
namespace Tr
open Mem
theorem indexI_any (v:Value) (l:List Int) (x:Int) (w:World) (hS:Is w v l) (hl:l.length ≤ 5000) :
  Calls Tryz.prog 162 #[v,.int .i64 x] w fun e w' => e = .returned (.int .i64 (idxI l (fun y => x == y))) ∧ w = w':=by
 obtain ⟨a,c,rfl⟩:=hS.len;have HS:=hid hS;clear hS;go_enter Tryz.func162,Tryz.ntmps162;go_wp2_with fail
 go_loop [8] (fun i => ∃ k:Nat,i = .int .i64 k ∧ k ≤ l.length ∧ Hid (∀ y ∈ l.take k,(x == y) = false)) (fun i => l.length - (intOf i).toNat)
 case atStart => exact ⟨0,rfl,by omega,hid (fun x h => by simp at h)⟩
 case round =>
  obtain ⟨k,rfl,hk,hno⟩:=hrel
  by_cases hlt:k < l.length
  ·have hlt':(k:Int) < (l.length:Nat):=by omega
   obtain ⟨y,hy⟩:=some_at hlt;obtain ⟨b,off,rfl⟩:=HS.out.addr (by omega);have hc:=sl_one HS.out rfl hy;unfold i64C at hc;have hy':=hid hy;clear hy
   by_cases hp:x = y
   ·have hr:Hid (idxI l (fun y => x == y) = (k:Int)):=hid (by have:=idx_hit (p:=fun y => x == y) hy'.out hno.out (by simpa using hp);unfold idxI;rw [this,if_pos hlt])
    subst hp;clear hy';go_wp2_with fail;go_ret;exact ⟨by rw [hr.out];rfl,rfl⟩
   ·have hno2:Hid (∀ y ∈ l.take (k + 1),(x == y) = false):=hid (fun z hz => by
     rw [take_snoc hy'.out,List.mem_append,List.mem_singleton] at hz
     rcases hz with hz | rfl
     ·exact hno.out z hz
     ·simpa using hp)
    go_wp2_with fail
    go_round
    case rel => exact ⟨k + 1,by go_num,by omega,hno2⟩
    case measure => simp [intOf];omega
  ·obtain rfl:k = l.length:=by omega
   have hge:¬ ((l.length:Int) < (l.length:Nat)):=by omega
   have hr:Hid (idxI l (fun y => x == y) = -1):=hid (by
    have h9:=hno.out;rw [List.take_length] at h9;unfold idxI
    rw [idx_none h9,if_neg (by omega)])
   go_wp2_with fail;go_ret;exact ⟨by rw [hr.out];rfl,rfl⟩
theorem containsI_any (v:Value) (l:List Int) (x:Int) (w:World) (hS:Is w v l) (hl:l.length ≤ 5000) :
  Calls Tryz.prog 116 #[v,.int .i64 x] w fun e w' => e = .returned (.bool (l.any (fun y => x == y))) ∧ w = w':=by
 have H:=hid (indexI_any v l x w hS hl);rw [← idxI_any];go_enter Tryz.func116,Tryz.ntmps116;go_wp2_with fail;refine H.out.mono ?_
 rintro e w2 ⟨rfl,rfl⟩;go_wp2_with fail;go_ret;exact ⟨rfl,rfl⟩
end Tr
end
section
open Go.RowKit Go.Shelf
namespace Tr
open Mem Tp Maps
attribute [local go_sem] Oper.semAt_some
structure PathI (w:World) (ch:Int) (pre:List Int) (W:World):Prop where
 out:∃ v,W.heap[w.heap.size + 3]? = some (.cells #[v] 82 (0,0)) ∧ Dl.OwnI W (w.heap.size + 2) v (ch :: pre) ∧ (∀ k,v.ownBlock = some k → k = w.heap.size + 2 ∨ w.heap.size + 8 ≤ k)
 c0:W.heap[w.heap.size]? = some (.cells #[.slice none 0 0] 82 (0,0))
 c1:W.heap[w.heap.size + 1]? = some (.cells #[.bool false] 4 (0,0))
 be:Below w.heap.size w W
 lo:w.heap.size + 8 ≤ W.heap.size
theorem own_kept' {T:Nat → Prop} {W W':World} {B:Nat} {v:Value} {l:List Int} (h:Dl.OwnI W B v l) (kp:Kept T W W') (hT:∀ k,v.ownBlock = some k → ¬ T k):Dl.OwnI W' B v l:=by
 refine ⟨h.1,?_⟩
 rcases h.2 with h2 | ⟨g,cap,cur,ev,hg,hh,r⟩
 ·exact .inl h2
 ·exact .inr ⟨g,cap,cur,ev,hg,kp.at hh (hT g (by rw [ev];rfl)),r⟩
theorem PathI.kept {w:World} {ch:Int} {pre:List Int} {W W':World} {T:Nat → Prop} (h:PathI w ch pre W) (kp:Kept T W W') (hT:∀ k,T k → k = w.heap.size + 4 ∨ k = w.heap.size + 5 ∨ k = w.heap.size + 6 ∨ k = w.heap.size + 7):PathI w ch pre W':=by
 obtain ⟨v,h1,h2,h3⟩:=h.out
 exact ⟨⟨v,kp.at h1 (fun t => by have:=hT _ t;omega),own_kept' h2 kp (fun k e t => by have:=hT _ t;have:=h3 k e;omega),h3⟩,kp.at h.c0 (fun t => by have:=hT _ t;omega),kp.at h.c1 (fun t => by have:=hT _ t;omega),
  h.be.trans (kp.to_below h.be.size (fun k hk t => by have:=hT _ t;omega)),Nat.le_trans h.lo kp.size⟩
theorem path_results (tmps:Array Value) (w:World) (B:Nat) (q:Bool) (v:Value) (h:tmps.getD 4 undef = .pointer (some ⟨B,0,none⟩)) (h':tmps.getD 5 undef = .pointer (some ⟨B + 1,0,none⟩)) (hw:w.heap[B]? = some (.cells #[v] 82 (0,0))) (hw':w.heap[B + 1]? = some (.cells #[.bool q] 4 (0,0))) :
  (results Tryz.f63 tmps).run Tryz.prog w = .ok (.tuple #[v,.bool q]) w:=by
 have hr:Tryz.f63.results = #[.cell 4 82,.cell 5 4]:=rfl;have c0:w.cell? ⟨B,0,none⟩ = some v:=cell_at hw 0;have c1:w.cell? ⟨B + 1,0,none⟩ = some (.bool q):=cell_at hw' 0;simp only [results,hr];simp only [Array.getD_eq_getD_getElem?] at h h';simp [Sem.run_bind,Result.andThen,h,h',go_sem];simp [c0,c1]
theorem chain_len (l:List Rw):∀ (n:Nat) (x:Int),(chain l n x).length ≤ n
 | 0,_ => Nat.le_refl _
 | n + 1,x => by
  rw [chain]
  split
  ·exact Nat.zero_le _
  ·rw [List.length_cons];exact Nat.succ_le_succ (chain_len l n _)
theorem path_ok (g:Nat) (D:DataW Unit) (l:List Rw) (ch:Int) (w:World) (hM:PM w g l.length D) (hD:PD D l) (hl:l.length ≤ 4000) (hr:∀ r ∈ l,InR r.pa) (hc:InR ch) (hgw:g < w.heap.size)
  (hn:(ch :: chain l l.length ch).Nodup) (h0:(ch :: chain l l.length ch).getLast? = some 0) (hu:up l 0 = none) :
  Calls Tryz.prog 63 #[.map (some g),.int .i64 ch] w fun e w' => (∃ y,e = .returned (.tuple #[y,.bool true]) ∧ Mem.Is w' y (ch :: chain l l.length ch)) ∧ Below w.heap.size w w':=by
 obtain ⟨i0,hi,hz0,hz1,hz2⟩:=info_parts Dl.infoI;have HR:=hid hr;have HM:=hid hM;have HD:=hid hD;have HN:=hid hn;have HU:=hid hu;have H0:=hid h0;clear hr hM hD hn hu h0;refine callsIn_wide.1 (callsIn_of_wp_marks (F:=Fence.wide) (n:=3) Tryz.func63 rfl trivial ?_ rfl)
 simp only [Tryz.ntmps63,List.size_toArray,List.length_cons,List.length_nil,Nat.reduceAdd,Nat.reduceSub,Array.replicate_succ,Array.replicate_zero,List.push_toArray,List.append_toArray,List.nil_append,List.cons_append]
 gi_wp2_with fail
 refine ⟨trivial,?_⟩
 refine CallsIn.mono (callsIn_wide.2 (ways_any _ _ _)) ?_
 rintro e' w3 ⟨rfl,rfl⟩
 gi_wp2_with fail
 obtain ⟨W3,hW3⟩:∃ W3,(((((w.alloc (.cells #[.slice none 0 0] 82)).alloc (.cells #[.bool false] 4)).alloc (.cells #[.int .i64 ch] 3)).alloc (.cells #[.slice (some ⟨w.heap.size + 1 + 1,0,none⟩) 1 1] 82)).alloc (.cells #[.map (some g)] 128)).alloc (.cells #[.int .i64 ch] 3) = W3:=⟨_,rfl⟩;have hL:lay w [.cells #[.slice none 0 0] 82,.cells #[.bool false] 4,.cells #[.int .i64 ch] 3,.cells #[.slice (some ⟨w.heap.size + 1 + 1,0,none⟩) 1 1] 82,.cells #[.map (some g)] 128,.cells #[.int .i64 ch] 3] = W3:=hW3
 have hz3:W3.heap.size = w.heap.size + 6:=by rw [← hL];exact lay_size _ _
 have hb3:Below w.heap.size w W3:=by rw [← hL];exact lay_below _ _
 have ha:=lay_at _ w |> fun h => hL ▸ h
 have a0:=ha 0 _ rfl;have a1:=ha 1 _ rfl;have a2:=ha 2 _ rfl;have a3:=ha 3 _ rfl;have a4:=ha 4 _ rfl;have a5:=ha 5 _ rfl;rw [Nat.add_zero] at a0;clear hL ha;have hM3:PM W3 g l.length D:=pm_kept HM.out (Kept.of_below (T:=fun _ => False) hb3) id;have hO3:Dl.OwnI W3 (w.heap.size + 2) (.slice (some ⟨w.heap.size + 2,0,none⟩) 1 1) [ch]:=⟨rfl,.inr ⟨w.heap.size + 2,1,#[.int .i64 ch],rfl,Nat.le_refl _,a2,by simp,by decide,by simp,by simp [Dl.cellsI]⟩⟩;rw [hW3];clear hW3
 refine range_box rfl (by decide) (gf:=161) (lb:=#[.pointer (some ⟨w.heap.size + 4,0,none⟩),.pointer (some ⟨w.heap.size + 5,0,none⟩)]) rfl trivial (enters_of Tryz.func161 (by kernel_rfl) rfl)
  (ways_gives Fence.wide 2 trivial rfl (by decide) (w.heap.size + 4) (w.heap.size + 5) g l.length D l ch (fun k => k = w.heap.size + 2 ∨ k = w.heap.size + 3 ∨ w.heap.size + 6 ≤ k) (by omega) (fun r h => HR.out r h) hc W3 a4 a5 hM3 HD.out ⟨by omega,by omega,by omega⟩ ⟨by omega,by omega⟩)
  (by omega) (fun _ => rfl) (fun h k => h.trans k) ?hKr (PathI w ch) (fun c pre W => c = .ret ∧ ¬ (ch :: pre).Nodup ∧ Below w.heap.size w W) ?hIr ?hIb ?hIx ?h0
  (fun x => { tmps:=#[.map (some g),.int .i64 ch,undef,undef,.pointer (some ⟨w.heap.size,0,none⟩),.pointer (some ⟨w.heap.size + 1,0,none⟩),.pointer (some ⟨w.heap.size + 1 + 1 + 1,0,none⟩),.int .i64 x,undef,.int .i64 ch,.slice (some ⟨w.heap.size + 1 + 1,0,none⟩) 1 1,.map (some g),.int .i64 ch,.func (.func 161) #[] #[.pointer (some ⟨w.heap.size + 1 + 1 + 1 + 1,0,none⟩),.pointer (some ⟨w.heap.size + 1 + 1 + 1 + 1 + 1,0,none⟩)],.int .i64 x,undef,undef,undef,undef,undef,undef,undef,undef,undef,undef,undef,undef,undef,undef,undef,undef,undef,undef,undef,undef,undef],defers:=[] }) ?assign ?body ?done ?stop
 case hKr => exact fun W o => kept_put (Kept.refl _ W) (fun _ => by omega) o
 case assign =>
  intro l' y' W K hK
  gi_wp2
  exact hK
 case hIr =>
  intro pre W o h;exact h.kept (T:=fun k => k = W3.heap.size + 1) (kept_put (T:=fun k => k = W3.heap.size + 1) (Kept.refl _ W) (p:=W3.heap.size + 1) (fun _ => rfl) o) (fun k e => by omega)
 case hIb =>
  intro pre W u h;exact h.kept (T:=fun k => k = w.heap.size + 5) (Kept.setCell (T:=fun k => k = w.heap.size + 5) (Kept.refl _ W) (p:=⟨w.heap.size + 5,0,none⟩) (fun _ => rfl) u) (fun k e => by omega)
 case hIx => exact fun c pre W o h => ⟨h.1,h.2.1,below_put h.2.2 (by omega) o⟩
 case h0 =>
  intro o1 o2;exact ⟨⟨_,alloc_at _ (alloc_at _ a3),(hO3.alloc _).alloc _,fun k h => .inl (Option.some.inj h).symm⟩,alloc_at _ (alloc_at _ a0),alloc_at _ (alloc_at _ a1),(hb3.alloc (by omega) _).alloc (by simp;omega) _,by simp;omega⟩
 case body =>
  rintro l' pre z W ⟨⟨v,h1,h2,h3⟩,h4,h5,h6,h7⟩ hlen;have c0:W.cell? ⟨w.heap.size + 1 + 1 + 1,0,none⟩ = some v:=cell_at h1 0;have HC:=hid (containsI_any v (ch :: pre) z W (own_sl h2) (by simp;omega));replace h1:=hid h1;replace h2:=hid h2;replace h3:=hid h3;replace h4:=hid h4;replace h5:=hid h5;replace h6:=hid h6
  gi_wp2_with fail
  refine ⟨trivial,?_⟩
  refine CallsIn.mono (CallsIn.inRound l' (callsIn_wide.2 HC.out)) ?_
  rintro e' w1 ⟨rfl,rfl⟩
  by_cases hx:z ∈ ch :: pre
  ·have hany:(ch :: pre).any (fun y => z == y) = true:=by rw [List.any_eq_true];exact ⟨z,hx,by simp⟩
   have hnn:Hid (¬ (ch :: (pre ++ [z])).Nodup):=hid (fun h => by
    rw [← List.cons_append,List.nodup_append] at h
    exact h.2.2 z hx z (by simp) rfl)
   rw [hany];clear hany hx HC;have d0:W.cell? ⟨w.heap.size,0,none⟩ = some (.slice none 0 0):=cell_at h4.out 0;have d1:W.cell? ⟨w.heap.size + 1,0,none⟩ = some (.bool false):=cell_at h5.out 0;have f0:W.frozen? ⟨w.heap.size,0,none⟩ = false:=free_at h4.out 0;have f1:W.frozen? ⟨w.heap.size + 1,0,none⟩ = false:=free_at h5.out 0;have hbe:=hid ((h6.out.setCell (p:=⟨w.heap.size,0,none⟩) (Nat.le_refl _) (.slice none 0 0)).setCell (p:=⟨w.heap.size + 1,0,none⟩) (by show w.heap.size ≤ w.heap.size + 1;omega) (.bool false))
   gi_wp2_with fail
   exact ⟨⟨by simp [World.setCell],fun k o hk ho hc => ((setCell_heap_other (by show k ≠ w.heap.size + 1;omega)).trans (setCell_heap_other (by show k ≠ w.heap.size;omega))).trans ho⟩,rfl,hnn.out,hbe.out⟩
  ·have hany:(ch :: pre).any (fun y => z == y) = false:=by rw [List.any_eq_false];exact fun y hy e => hx ((show z = y by simpa using e) ▸ hy)
   rw [hany];clear hany HC hx;have hOa:=hid (h2.out.alloc (.cells #[.int .i64 z] 3));have hga:=hid (alloc_at (.cells #[.int .i64 z] 3) h1.out);have hza:=hid (alloc_new W (.cells #[.int .i64 z] 3));have hlt3:=h2.out.lt;replace hlt3:=hid hlt3
   gi_wp2_with (gi_at_builtin;refine wpListIn_append_own_at _ (by rfl) _ _ 82 (by rfl) (w.heap.size + 2) 3 i0 _ 1 8 Tryz.underlying82 hi hz0 hz1 hz2 rfl (by decide) _ (ch :: pre).length (Dl.cellsI (ch :: pre)) (by rfl) hOa.out ⟨W.heap.size,0,none⟩ 1 1 [.int .i64 z] (by rfl) rfl (fun j u hj => by rw [Addr.add_lit,Nat.zero_add];exact block_cells hza.out j u (by simpa using hj)) (Dl.one_int z) (by unfold maxLen;simp;omega) (by simp;omega) (by simp;omega) ?_;intro v5 w5 hown5 hgrow5 hnil5 hat5;obtain ⟨a5,k5,e5⟩:=(own_sl hown5).len;subst e5;have h35:=(hgrow5.block (w.heap.size + 3) (by simp;omega) (fun e => by have:=h3.out _ e.symm;omega)).trans hga.out;have c6:w5.cell? ⟨w.heap.size + 1 + 1 + 1,0,none⟩ = some v:=cell_at h35 0;have f6:w5.frozen? ⟨w.heap.size + 1 + 1 + 1,0,none⟩ = false:=free_at h35 0;have h36:=hid h35;have hown5:=hid hown5;have hgrow5:=hid hgrow5;have hat5:=hid hat5;clear hnil5 h35)
   have hat:=hat5.out;have hlt5:=hown5.out.lt;have hs5:=hgrow5.out.size;simp at hs5
   have kg:Kept (fun k => k = w.heap.size + 2 ∨ k = w.heap.size + 3 ∨ w.heap.size + 6 ≤ k) W w5:=
    ((Kept.refl _ W).alloc _).grown hgrow5.out (fun k e _ => by have:=h3.out k e;omega)
   have kf:=kg.setCell (p:=⟨w.heap.size + 3,0,none⟩) (fun _ => .inr (.inl rfl)) (.slice a5 ((ch :: pre).length + 1) k5);have hh3:(w5.setCell ⟨w.heap.size + 3,0,none⟩ (.slice a5 ((ch :: pre).length + 1) k5)).heap[w.heap.size + 3]? = some (.cells #[.slice a5 ((ch :: pre).length + 1) k5] 82 (0,0)):=(set_at h36.out 0 _).trans rfl
   have hob:∀ k,Value.ownBlock (.slice a5 ((ch :: pre).length + 1) k5) = some k → k = w.heap.size + 2 ∨ w.heap.size + 8 ≤ k:=fun k e => by
    rcases hat with h | h
    ·exact h3.out k (h.symm.trans e)
    ·rw [h] at e;have:=Option.some.inj e;simp at this;omega
   have hO5:Dl.OwnI w5 (w.heap.size + 2) (.slice a5 ((ch :: pre).length + 1) k5) (ch :: (pre ++ [z])):=by
    have:=Dl.ownI_snoc hown5.out
    rwa [List.cons_append] at this
   have kset:=Kept.setCell (T:=fun k => k = w.heap.size + 3) (Kept.refl _ w5) (p:=⟨w.heap.size + 3,0,none⟩) (fun _ => rfl) (.slice a5 ((ch :: pre).length + 1) k5);refine ⟨?_,kf,⟨_,hh3,own_kept' hO5 kset (fun k e t => by have:=hob k e;omega),hob⟩,kf.at h4.out (by omega),kf.at h5.out (by omega),h6.out.trans (kf.to_below h6.out.size (fun k hk t => by omega)),Nat.le_trans h7 kf.size⟩
   refine ⟨kf.size,fun k o hk ho hc => ?_⟩
   have hne:some k ≠ v.ownBlock:=fun e => by
    rcases h2.out.2 with ⟨rfl,-⟩ | ⟨g',cap,cur,rfl,hg,hh,-⟩
    ·cases e
    ·obtain rfl:k = g':=Option.some.inj e
     rw [hh] at ho
     cases ho
     cases hc
   exact (setCell_heap_other (by show k ≠ w.heap.size + 3;omega)).trans ((hgrow5.out.block k (by simp;exact Nat.lt_succ_of_lt (lt_of_block ho)) hne).trans (alloc_at _ ho))
 case done =>
  rintro xs W hxs ⟨⟨v,h1,h2,h3⟩,h4,h5,h6,h7⟩ hDD;simp only [Exit.inBlock];have hxl:=chain_len l l.length ch;rw [show chain l l.length ch = xs from Eq.symm hxs] at hxl H0;replace hxs:=hid hxs;have hS:=hid (own_sl h2);obtain ⟨a',c',rfl⟩:=hS.out.len;obtain ⟨b',off',e'⟩:=hS.out.addr (by simp);subst e'
  have hla:(ch :: xs)[xs.length]? = some 0:=by have:=H0.out;rwa [List.getLast?_eq_getElem?,List.length_cons,Nat.add_sub_cancel] at this
  have hq:=sl_one hS.out rfl hla;unfold i64C at hq;have c0:W.cell? ⟨w.heap.size + 1 + 1 + 1,0,none⟩ = some (.slice (some ⟨b',off',none⟩) (ch :: xs).length c'):=cell_at h1 0
  have hw1:IntKind.i64.wrap ((xs.length:Int) + 1 - 1) = (xs.length:Int):=by rw [IntKind.wrap_i64];omega
  have hj0:(0:Int) ≤ (xs.length:Int):=by omega
  have hj1:(xs.length:Int) < (xs.length:Int) + 1:=by omega
  have HH:=hid (hasRow_any g l.length D l 0 W (pm_kept HM.out (Kept.of_below (T:=fun _ => False) h6) id) HD.out ⟨by decide,by decide⟩);simp only [List.length_cons] at c0;rw [hz3] at hDD;replace hDD:=hid hDD
  gi_wp2_with fail
  refine ⟨trivial,?_⟩
  refine CallsIn.mono (callsIn_wide.2 HH.out) ?_
  rintro e' w9 ⟨rfl,rfl⟩;rw [HU.out];have d0:W.cell? ⟨w.heap.size,0,none⟩ = some (.slice none 0 0):=cell_at h4 0;have d1:W.cell? ⟨w.heap.size + 1,0,none⟩ = some (.bool false):=cell_at h5 0;have f0:W.frozen? ⟨w.heap.size,0,none⟩ = false:=free_at h4 0;have f1:W.frozen? ⟨w.heap.size + 1,0,none⟩ = false:=free_at h5 0;obtain ⟨W9,hW9⟩:∃ W9,(W.setCell ⟨w.heap.size,0,none⟩ (.slice (some ⟨b',off',none⟩) (xs.length + 1) c')).setCell ⟨w.heap.size + 1,0,none⟩ (.bool true) = W9:=⟨_,rfl⟩
  have k9:Kept (fun k => k = w.heap.size ∨ k = w.heap.size + 1) W W9:=by
   rw [← hW9];exact ((Kept.refl _ W).setCell (p:=⟨w.heap.size,0,none⟩) (fun _ => .inl rfl) _).setCell (p:=⟨w.heap.size + 1,0,none⟩) (fun _ => .inr rfl) _
  have g0:W9.heap[w.heap.size]? = some (.cells #[.slice (some ⟨b',off',none⟩) (xs.length + 1) c'] 82 (0,0)):=by
   rw [← hW9];exact (set_other ((set_at h4 0 _).trans rfl) (p:=⟨w.heap.size + 1,0,none⟩) (by show w.heap.size ≠ w.heap.size + 1;omega) _)
  have g1:W9.heap[w.heap.size + 1]? = some (.cells #[.bool true] 4 (0,0)):=by
   rw [← hW9];exact (set_at (set_other h5 (p:=⟨w.heap.size,0,none⟩) (by show w.heap.size + 1 ≠ w.heap.size;omega) _) 0 _).trans rfl
  have hD9:=k9.at hDD.out (by omega);have hb9:=hid (h6.trans (k9.to_below h6.size (fun k hk t => by omega)));replace hW9:=hid hW9;replace g0:=hid g0;replace g1:=hid g1;replace hD9:=hid hD9
  gi_wp2_with fail
  rw [hW9.out];refine ⟨by simp,.inl ⟨_,_,rfl,run_takeDeferred hD9.out,?_⟩⟩
  have q0:(W9.putObj (w.heap.size + 6) (.deferred none)).heap[w.heap.size]? = some (.cells #[.slice (some ⟨b',off',none⟩) (xs.length + 1) c'] 82 (0,0)):=(World.putObj_heap_other (by omega)).trans g0.out;have q1:(W9.putObj (w.heap.size + 6) (.deferred none)).heap[w.heap.size + 1]? = some (.cells #[.bool true] 4 (0,0)):=(World.putObj_heap_other (by omega)).trans g1.out;refine ⟨_,path_results _ _ _ true _ rfl rfl q0 q1,⟨_,rfl,?_⟩,below_put hb9.out (by omega) _⟩
  rw [← show xs = chain l l.length ch from hxs.out];have kp:=kept_put (T:=fun k => k = (w.heap.size + 6)) (Kept.refl _ W9) (p:=(w.heap.size + 6)) (fun _ => rfl) (.deferred none);exact own_sl (own_kept' (own_kept' h2 k9 (fun k e t => by have:=h3 k e;omega)) kp (fun k e t => by have:=h3 k e;omega))
 case stop =>
  rintro c pre W ⟨k,hk⟩ ⟨rfl,h1,-⟩ hDD
  exfalso
  rw [hk] at h1;exact h1 (HN.out.sublist (List.Sublist.cons_cons _ (List.take_sublist _ _)))
theorem Path_ok (v:Value) (l:List Rw) (ch:Int) (w:World) (hS:Mem.Rows w v l) (hl:l.length ≤ 4000) (hnd:(l.map (·.ch)).Nodup) (hr:∀ r ∈ l,InR r.ch ∧ InR r.pa) (hc:InR ch)
  (hn:(ch :: chain l l.length ch).Nodup) (h0:(ch :: chain l l.length ch).getLast? = some 0) (hu:up l 0 = none) :
  Calls Tryz.prog 33 #[v,.int .i64 ch] w fun e w' => (∃ y,e = .returned (.tuple #[y,.bool true]) ∧ Mem.Is w' y (ch :: chain l l.length ch)) ∧ Below w.heap.size w w':=by
 have HP:=hid (parents_any v l w hS hl hnd hr);have HQ:=hid (fun g D W h1 h2 h3 => path_ok g D l ch W h1 h2 hl (fun r h => (hr r h).2) hc h3 hn h0 hu);obtain ⟨a,c,rfl⟩:=hS.len;clear hS hn h0 hr hnd hu;generalize chain l l.length ch = xs at *;go_enter Tryz.func33,Tryz.ntmps33;go_wp2_with fail;refine HP.out.mono ?_
 rintro e w2 ⟨rfl,⟨D,hM,hD⟩,hb2⟩;have H2:=hid (HQ.out _ D w2 hM hD hM.lt);replace hb2:=hid hb2;clear hM hD HP HQ;go_wp2_with fail;refine H2.out.mono ?_
 rintro e w3 ⟨⟨y,rfl,hy⟩,hb3⟩;have hb:=hid (hb2.out.trans (hb3.mono hb2.out.size));replace hy:=hid hy;obtain ⟨a1,c1,e1⟩:=hy.out.len;subst e1;clear hb3;go_wp2_with fail;go_ret2;exact ⟨⟨_,rfl,hy.out⟩,hb.out⟩
end Tr
end
section
open Go.RowKit Go.Shelf
attribute [local go_sem] Fl.run_store_float
namespace Pl
open Mem Tp Tr Mo Fo Sn Og St
def x0:X3:=(⟨.slice none 0 0,.slice none 0 0,.slice none 0 0⟩,⟨[],⟨0,0⟩,[],[]⟩)
theorem rep_x0 (W:World):RepX W x0:=⟨sl_nil _,sl_nil _,sl_nil _,fun k h => (by simp [x0,Value.ownBlock] at h),fun k h => (by simp [x0,Value.ownBlock] at h),fun k h => (by simp [x0,Value.ownBlock] at h)⟩
theorem x0_blocks (k:Nat):¬ blocks x0 k:=by
 rintro (e | e | e) <;> simp [x0,Value.ownBlock] at e
theorem pw_new {W:World} {base p b n:Nat} (hb:W.heap[b]? = some (.cells ((List.replicate n x0).flatMap repC).toArray 34 (0,0))) (hp:W.heap[p]? = some (.cells #[.slice (some ⟨b,0,none⟩) n n,.slice none 0 0] 89 (0,0)))
  (hpb:p ≠ b) (h1:base ≤ p) (h2:base ≤ b) (hn:1 ≤ n) (h8:n ≤ 8):PW W base p b (.slice none 0 0) (List.replicate n x0) [] where
 hp:=by rw [List.length_replicate];exact hp
 hb:=hb
 pb:=hpb
 bp:=h1
 bb:=h2
 own:=World.ownsRow_nil _ _ _ _
 pp:=fun k e => by simp [Value.ownBlock] at e
 rep:=fun x hx => by rw [List.eq_of_mem_replicate hx];exact rep_x0 W
 sep:=fun x hx k hk => by rw [List.eq_of_mem_replicate hx] at hk;exact absurd hk (x0_blocks k)
 n1:=by rw [List.length_replicate];exact hn
 n8:=by rw [List.length_replicate];exact h8
theorem made_x0 {n:Nat} (h1:1 ≤ n) (h8:n ≤ 8):madeCells #[.slice none 0 0,.int .i64 0,.int .i64 0,.slice none 0 0,.slice none 0 0] (n * 5) = ((List.replicate n x0).flatMap repC).toArray:=by
 rcases (show n = 1 ∨ n = 2 ∨ n = 3 ∨ n = 4 ∨ n = 5 ∨ n = 6 ∨ n = 7 ∨ n = 8 by omega) with rfl | rfl | rfl | rfl | rfl | rfl | rfl | rfl <;> kernel_rfl
theorem info_rep3:(Tryz.prog.info? 34).map (fun i => (i.zero,i.size,i.bytes)) = some (some (.agg #[.slice none 0 0,.int .i64 0,.int .i64 0,.slice none 0 0,.slice none 0 0]),5,88):=by kernel_rfl
theorem run_make (n:Nat) (w:World) (h1:1 ≤ n) (h8:n ≤ 8):(Instr.makeSlice 87 (.int .i64 (n:Int)) (.int .i64 (n:Int))).run Tryz.prog w = .ok (.slice (some ⟨w.heap.size,0,none⟩) n n) (w.alloc (.cells ((List.replicate n x0).flatMap repC).toArray 34)):=by
 obtain ⟨i,hi,hzz⟩:=Option.map_eq_some_iff.1 info_rep3;simp only [Prod.mk.injEq] at hzz;obtain ⟨hz,hs,hb⟩:=hzz;have hr:=Go.run_make (P:=Tryz.prog) w 87 34 i _ (Tryz.underlying87) hi hz .i64 .i64 n n (by omega) (Int.le_refl _) (by rw [hb];omega) (by omega);simp only [Int.toNat_natCast,hs] at hr;rw [hr,← made_x0 h1 h8]
 rfl
theorem new_any (n:Nat) (w:World) (hn:1 ≤ n) (h8:n ≤ 8) :
  Calls Tryz.prog 22 #[.int .i64 (n:Int)] w fun e w' => ∃ p b,e = .returned (.pointer (some ⟨p,0,none⟩)) ∧ PW w' w.heap.size p b (.slice none 0 0) (List.replicate n x0) [] ∧ Below w.heap.size w w':=by
 have hm:=run_make n w hn h8
 have t1:¬ (n:Int) < 1:=by omega
 have t2:¬ (8:Int) < (n:Int):=by omega
 have g0:=alloc_new w (.cells ((List.replicate n x0).flatMap repC).toArray 34);have b0:=(Below.refl w.heap.size w).alloc (Nat.le_refl _) (.cells ((List.replicate n x0).flatMap repC).toArray 34);have g1:=alloc_at (.cells #[.slice (some ⟨w.heap.size,0,none⟩) n n,.slice none 0 0] 89) g0;have p1:=alloc_new (w.alloc (.cells ((List.replicate n x0).flatMap repC).toArray 34)) (.cells #[.slice (some ⟨w.heap.size,0,none⟩) n n,.slice none 0 0] 89);have b1:=b0.alloc (by simp) (.cells #[.slice (some ⟨w.heap.size,0,none⟩) n n,.slice none 0 0] 89)
 have hs1:=hid (World.size_alloc w (.cells ((List.replicate n x0).flatMap repC).toArray 34));replace g0:=hid g0;replace b0:=hid b0;replace g1:=hid g1;replace p1:=hid p1;replace b1:=hid b1;replace hn:=hid hn;generalize w.alloc (.cells ((List.replicate n x0).flatMap repC).toArray 34) = W1 at *;go_enter Tryz.func22,Tryz.ntmps22;go_wp2_with fail;go_ret;have hs:=hs1.out;exact ⟨W1.heap.size,rfl,⟨w.heap.size,pw_new g1.out p1.out (by omega) (by omega) (Nat.le_refl _) hn.out h8⟩,b1.out⟩
theorem WfR.okT {r:Rp} (h:WfR r):Fd.OkT r.base:=⟨rise_nodup h.rise,fun x hx => oneR_r (h.one x hx)⟩
theorem WfR.inR {r:Rp} (h:WfR r):∀ m ∈ r.log,InR m.ch ∧ InR m.pa:=fun m hm => oneR_r (oneM_in (h.lone m hm)).2
theorem tree_any {base p b:Nat} {vp:Value} {xs:List X3} {pool:List Mv} (w:World) (hP:PW w base p b vp xs pool) (k:Nat) (x:X3) (hx:xs[k]? = some x) (hO:WfR x.2) :
  Calls Tryz.prog 34 #[.pointer (some ⟨p,0,none⟩),.int .i64 ((k:Int) + 1)] w fun e w' => (∃ v',e = .returned v' ∧ Mem.Rows w' v' (treeR x.2)) ∧ Below w.heap.size w w':=by
 have hX:=hP.rep x (List.mem_of_getElem? hx);have HR:=hid (replica_any w hP k x hx);have hlen:=hO.len;have HS:=hid (fun W (h:RepX W x) => Fo.tree_any x.1.b x.1.l x.1.m x.2.fl x.2.base x.2.log W h.b h.l (by omega) (by omega) (WfR.okT hO) (WfR.inR hO));obtain ⟨f,hf⟩:∃ f,treeR x.2 = f:=⟨_,rfl⟩;rw [show foldM x.2.base x.2.log = f from hf] at HS;rw [hf];obtain ⟨ab,kb,eb⟩:=hX.b.len;obtain ⟨al,kl,el⟩:=hX.l.len;obtain ⟨am,km,em⟩:=hX.m.len;obtain ⟨⟨vb,vl,vm⟩,r⟩:=x;simp only at eb el em hf hlen;subst eb el em;unfold rpV repV at HR;unfold repV at HS
 replace hX:=hid hX;replace hf:=hid hf;clear hP hx hO hlen;go_enter Tryz.func34,Tryz.ntmps34;go_wp2_with fail;refine HR.out.mono ?_
 rintro e w1 ⟨rfl,b1⟩;have g2:=alloc_new w1 (.cells #[.slice ab r.base.length kb,.int .i64 r.fl.c,.int .i64 r.fl.r,.slice al r.log.length kl,.slice am r.mks.length km] 34);have b2:=b1.alloc b1.size (.cells #[.slice ab r.base.length kb,.int .i64 r.fl.c,.int .i64 r.fl.r,.slice al r.log.length kl,.slice am r.mks.length km] 34);have HS2:=hid (HS.out _ (RepW.below hX.out b2));replace g2:=hid g2;replace b2:=hid b2;clear b1
 have c0:(w1.alloc (.cells #[.slice ab r.base.length kb,.int .i64 r.fl.c,.int .i64 r.fl.r,.slice al r.log.length kl,.slice am r.mks.length km] 34)).cell? ⟨w1.heap.size,0,none⟩ = some (.slice ab r.base.length kb):=cell_at g2.out 0;have c1:(w1.alloc (.cells #[.slice ab r.base.length kb,.int .i64 r.fl.c,.int .i64 r.fl.r,.slice al r.log.length kl,.slice am r.mks.length km] 34)).cell? ⟨w1.heap.size,1,none⟩ = some (.int .i64 r.fl.c):=cell_at g2.out 1
 have c2:(w1.alloc (.cells #[.slice ab r.base.length kb,.int .i64 r.fl.c,.int .i64 r.fl.r,.slice al r.log.length kl,.slice am r.mks.length km] 34)).cell? ⟨w1.heap.size,2,none⟩ = some (.int .i64 r.fl.r):=cell_at g2.out 2;have c3:(w1.alloc (.cells #[.slice ab r.base.length kb,.int .i64 r.fl.c,.int .i64 r.fl.r,.slice al r.log.length kl,.slice am r.mks.length km] 34)).cell? ⟨w1.heap.size,3,none⟩ = some (.slice al r.log.length kl):=cell_at g2.out 3
 have c4:(w1.alloc (.cells #[.slice ab r.base.length kb,.int .i64 r.fl.c,.int .i64 r.fl.r,.slice al r.log.length kl,.slice am r.mks.length km] 34)).cell? ⟨w1.heap.size,4,none⟩ = some (.slice am r.mks.length km):=cell_at g2.out 4;go_wp2_with fail;refine HS2.out.mono ?_
 rintro e w3 ⟨⟨v',rfl,h3⟩,b3⟩;have b4:=hid (b2.out.trans (b3.mono b2.out.size));replace h3:=hid h3;clear b3 c0 c1 c2 c3 c4;go_wp2_with fail;go_ret;exact ⟨⟨v',rfl,h3.out⟩,b4.out⟩
end Pl
end
section
open Go.RowKit Go.Shelf
attribute [local go_sem] Fl.run_store_float
namespace Pl
open Mem Tp Tr Mo Fo Sn Og St Iv
theorem infoErr:(Tryz.prog.info? 37).map (fun i => (i.zero,i.size,i.bytes)) = some (some (.int .i64 0),1,8):=by kernel_rfl
def OwnC (w:World) (base:Nat) (v:Value) (l:List Int):Prop:=w.ownsRow base 37 1 v l.length (l.map (Value.int .i64))
def OkD (l:List Dd):Prop:=l.length ≤ 45 ∧ ∀ d ∈ l,d.nm.size ≤ 100 ∧ d.rk < 2 * Fl.S
theorem OkD.run {l:List Dd} (h:OkD l) {n k:Nat} {rs:List Rp} {pool:List Mv} {cs:List Int} (hr:RunS n (l.take k) rs pool cs):InvS k rs pool ∧ cs.length ≤ k ∧ rs.length = n:=by
 have h1:=hr.inv (fun d hd => (h.2 d (List.mem_of_mem_take hd)).2);have h2:=hr.len;rw [List.length_take] at h1 h2;exact ⟨h1.mono (by omega),by omega,h2.1⟩
theorem map_x0 (n:Nat):(List.replicate n x0).map (·.2) = List.replicate n r0:=by rw [List.map_replicate];rfl
theorem take_snoc {α:Type} {l:List α} {k:Nat} {x:α} (h:l[k]? = some x):l.take (k + 1) = l.take k ++ [x]:=by rw [List.take_add_one,h];rfl
theorem run_any (n:Nat) (v:Value) (l:List Dd) (w:World) (hn:1 ≤ n) (h8:n ≤ 8) (hS:Mem.Dds w v l) (hl:OkD l) :
  Calls Tryz.prog 32 #[.int .i64 (n:Int),v] w fun e w' => ∃ (p b:Nat) (vp:Value) (xs:List X3) (pool:List Mv) (cs:List Int) (v':Value),e = .returned (.tuple #[.pointer (some ⟨p,0,none⟩),v']) ∧ RunS n l (xs.map (·.2)) pool cs ∧ PW w' w.heap.size p b vp xs pool ∧ OwnC w' w.heap.size v' cs ∧ Below w.heap.size w w':=by
 obtain ⟨a,cap,rfl⟩:=hS.len;obtain ⟨i0,hi,hz0,hz1,hz2⟩:=info_parts infoErr;have HN:=hid (new_any n w hn h8);have hlen:=hl.1;have HS:=hid hS;have HL:=hid hl;clear hS hl;go_enter Tryz.func32,Tryz.ntmps32;go_wp2_with fail;refine HN.out.mono ?_
 rintro e w1 ⟨p,b,rfl,hP,b1⟩;have hsz1:=b1.size;replace hP:=hid hP;replace b1:=hid b1;go_wp2_with fail
 go_loopw [7,14] (fun v i wr => ∃ (k:Nat) (vp:Value) (xs:List X3) (pool:List Mv) (cs:List Int),i = .int .i64 k ∧ k ≤ l.length ∧ Hid (RunS n (l.take k) (xs.map (·.2)) pool cs) ∧ Hid (PW wr w.heap.size p b vp xs pool) ∧ Hid (OwnC wr w.heap.size v cs) ∧ Hid (∀ j,v.ownBlock = some j → ¬ PB p b vp xs j) ∧ Hid (Below w.heap.size w wr)) (fun _ i _ => l.length - (intOf i).toNat)
 case atStart => exact ⟨0,_,_,_,[],rfl,by omega,hid (by rw [map_x0];exact RunS.nil),hP,hid (World.ownsRow_nil _ _ _ _),hid (fun j e => by simp [Value.ownBlock] at e),b1⟩
 case round =>
  obtain ⟨k,vp,xs,pool,cs,rfl,hk,hr,hPr,hO,hsep,hb⟩:=hrel
  by_cases hlt:k < l.length
  ·have hlt':(k:Int) < (l.length:Nat):=by omega
   obtain ⟨x,hx⟩:=some_at hlt;obtain ⟨bd,off,rfl⟩:=HS.out.addr (by omega);have hSr:=HS.out.below hb.out;have hbl:=sl_lt hSr (by omega);obtain ⟨q0,q1,q2,q3,q4,q5,q6,q7⟩:=dd_at hSr rfl hx;obtain ⟨hinv,hcl,hrl⟩:=HL.out.run hr.out;have hxd:=HL.out.2 x (List.mem_of_getElem? hx);have hlw:=hb.out.size;have hg:=alloc_new wr (.cells #[.int .i64 x.kind,.int .i64 x.who,.int .i64 x.frm,.int .i64 x.at_,.int .i64 x.pa,.int .i64 x.ch,.string x.nm,.float .f64 x.rk] 63)
   have hb1:=hb.out.alloc hlw (.cells #[.int .i64 x.kind,.int .i64 x.who,.int .i64 x.frm,.int .i64 x.at_,.int .i64 x.pa,.int .i64 x.ch,.string x.nm,.float .f64 x.rk] 63);have hP1:=hPr.out.below ((Below.refl wr.heap.size wr).alloc (Nat.le_refl _) (.cells #[.int .i64 x.kind,.int .i64 x.who,.int .i64 x.frm,.int .i64 x.at_,.int .i64 x.pa,.int .i64 x.ch,.string x.nm,.float .f64 x.rk] 63))
   have hO1:=own_below hO.out ((Below.refl wr.heap.size wr).alloc (Nat.le_refl _) (.cells #[.int .i64 x.kind,.int .i64 x.who,.int .i64 x.frm,.int .i64 x.at_,.int .i64 x.pa,.int .i64 x.ch,.string x.nm,.float .f64 x.rk] 63));have HST:=hid (step_any x _ hP1 (fun y hy => hinv.okR (by omega) _ (List.mem_map_of_mem hy)) (by omega) (by have:=hinv.p;omega) (fun m hm => by have:=hinv.nm m hm;omega));unfold dedV at HST
   have d0:(wr.alloc (.cells #[.int .i64 x.kind,.int .i64 x.who,.int .i64 x.frm,.int .i64 x.at_,.int .i64 x.pa,.int .i64 x.ch,.string x.nm,.float .f64 x.rk] 63)).cell? ⟨wr.heap.size,0,none⟩ = some (.int .i64 x.kind):=cell_at hg 0;have d1:(wr.alloc (.cells #[.int .i64 x.kind,.int .i64 x.who,.int .i64 x.frm,.int .i64 x.at_,.int .i64 x.pa,.int .i64 x.ch,.string x.nm,.float .f64 x.rk] 63)).cell? ⟨wr.heap.size,1,none⟩ = some (.int .i64 x.who):=cell_at hg 1
   have d2:(wr.alloc (.cells #[.int .i64 x.kind,.int .i64 x.who,.int .i64 x.frm,.int .i64 x.at_,.int .i64 x.pa,.int .i64 x.ch,.string x.nm,.float .f64 x.rk] 63)).cell? ⟨wr.heap.size,2,none⟩ = some (.int .i64 x.frm):=cell_at hg 2;have d3:(wr.alloc (.cells #[.int .i64 x.kind,.int .i64 x.who,.int .i64 x.frm,.int .i64 x.at_,.int .i64 x.pa,.int .i64 x.ch,.string x.nm,.float .f64 x.rk] 63)).cell? ⟨wr.heap.size,3,none⟩ = some (.int .i64 x.at_):=cell_at hg 3
   have d4:(wr.alloc (.cells #[.int .i64 x.kind,.int .i64 x.who,.int .i64 x.frm,.int .i64 x.at_,.int .i64 x.pa,.int .i64 x.ch,.string x.nm,.float .f64 x.rk] 63)).cell? ⟨wr.heap.size,4,none⟩ = some (.int .i64 x.pa):=cell_at hg 4;have d5:(wr.alloc (.cells #[.int .i64 x.kind,.int .i64 x.who,.int .i64 x.frm,.int .i64 x.at_,.int .i64 x.pa,.int .i64 x.ch,.string x.nm,.float .f64 x.rk] 63)).cell? ⟨wr.heap.size,5,none⟩ = some (.int .i64 x.ch):=cell_at hg 5
   have d6:(wr.alloc (.cells #[.int .i64 x.kind,.int .i64 x.who,.int .i64 x.frm,.int .i64 x.at_,.int .i64 x.pa,.int .i64 x.ch,.string x.nm,.float .f64 x.rk] 63)).cell? ⟨wr.heap.size,6,none⟩ = some (.string x.nm):=cell_at hg 6;have d7:(wr.alloc (.cells #[.int .i64 x.kind,.int .i64 x.who,.int .i64 x.frm,.int .i64 x.at_,.int .i64 x.pa,.int .i64 x.ch,.string x.nm,.float .f64 x.rk] 63)).cell? ⟨wr.heap.size,7,none⟩ = some (.float .f64 x.rk):=cell_at hg 7;replace hg:=hid hg;replace hb1:=hid hb1;replace hP1:=hid hP1;replace hO1:=hid hO1;replace hx:=hid hx
   replace hinv:=hid hinv;replace hxd:=hid hxd;clear hSr;obtain ⟨av,kv,ev⟩:=(own_sl hO1.out).len;subst ev;go_wp2_with fail;refine HST.out.mono ?_
   rintro e w2 ⟨vp',xs',pool',c,rfl,hSt,hP2,hb2,hk2,hn2⟩;have hs2:=hk2.size;simp only [World.size_alloc] at hs2 hn2
   have hlo:=fun j (e:(Value.slice av cs.length kv).ownBlock = some j) => (hO1.out.lt j e)
   have hlo0:=fun j (e:(Value.slice av cs.length kv).ownBlock = some j) => (hO.out.lt j e)
   have hO2:=own_other hO1.out (fun j e => hk2.block j (hlo j e).2 (fun q => hsep.out j e (q.elim .inl (fun q => q.elim (fun q => .inr (.inl q)) (fun q => .inr (.inr (.inl q)))))));have hb3:=(hb1.out.trans hb2).alloc (by omega) (.cells #[.int .i64 c] 37);have hP3:=hP2.below ((Below.refl w2.heap.size w2).alloc (Nat.le_refl _) (.cells #[.int .i64 c] 37));have hO3:=own_below hO2 ((Below.refl w2.heap.size w2).alloc (Nat.le_refl _) (.cells #[.int .i64 c] 37));have h3:=alloc_new w2 (.cells #[.int .i64 c] 37)
   have hr2:RunS n (l.take (k + 1)) (xs'.map (·.2)) pool' (cs ++ [c]):=by rw [take_snoc hx.out];exact hr.out.snoc hSt
   have hsep2:∀ j,(Value.slice av cs.length kv).ownBlock = some j → ¬ PB p b vp' xs' j:=fun j e q => by
    rcases hn2 j q with h | h
    ·exact hsep.out j e h
    ·have:=(hlo0 j e).2;omega
   replace hSt:=hid hSt;replace hP2:=hid hP2;replace hb2:=hid hb2;replace hk2:=hid hk2;replace hn2:=hid hn2;replace hO2:=hid hO2;replace hb3:=hid hb3;replace hP3:=hid hP3;replace hO3:=hid hO3;replace hlo:=hid hlo;replace hlo0:=hid hlo0;replace hr2:=hid hr2;replace hsep2:=hid hsep2;clear d0 d1 d2 d3 d4 d5 d6 d7 q0 q1 q2 q3 q4 q5 q6 q7
   go_wp2_with (at_builtin;refine wpList_append_near (by rfl) (.tmp 18) (.tmp 22) 79 (by rfl) w.heap.size 37 i0 (.int .i64 0) 1 8 Tryz.underlying79 hi hz0 hz1 hz2 rfl (by decide) _ cs.length (cs.map (Value.int .i64)) (by rfl) hO3.out w2.heap.size 1 1 [Value.int .i64 c] (by rfl) rfl h3 (by intro u hu;rw [List.mem_singleton.1 hu];rfl) (by unfold maxLen;omega) (by omega) (by simp;omega) ?_;intro v5 w5 hown hgrow hnear)
   have hgr:=hgrow.out;have hgs:=hgr.size;simp only [World.size_alloc] at hgs;have hP5:=hP3.out.same hgr.size (fun j hj => hgr.block j (hP3.out.lt hj) (fun e => hsep2.out j e.symm hj));have hb5:=hb3.out.grown hgr hb3.out.size (fun j e => (hlo.out j e).1)
   have hsep5:∀ j,v5.ownBlock = some j → ¬ PB p b vp' xs' j:=fun j e q => by
    rcases hnear.out j e with h | h
    ·exact hsep2.out j h q
    ·have:=hP3.out.lt q;omega
   have hO5:OwnC w5 w.heap.size v5 (cs ++ [c]):=by
    unfold OwnC;rw [List.length_append,List.length_singleton,List.map_append];exact hown.out
   replace hP5:=hid hP5;replace hb5:=hid hb5;replace hsep5:=hid hsep5;replace hO5:=hid hO5;clear hown hgrow hnear hgr;go_wp2_with fail
   go_roundw
   case rel => exact ⟨k + 1,vp',xs',pool',cs ++ [c],by go_num,by omega,hr2,hP5,hO5,hsep5,hb5⟩
   case measure => simp [intOf];omega
  ·obtain rfl:k = l.length:=by omega
   have hge:¬ ((l.length:Int) < (l.length:Nat)):=by omega
   go_wp2_with fail;go_ret2;have hr':=hr.out;rw [List.take_length] at hr';exact ⟨p,b,vp,xs,pool,cs,_,rfl,hr',hPr.out,hO.out,hb.out⟩
end Pl
end
section
open Go.RowKit
namespace Fl
theorem wd_lt (s:Bool) {r:Nat} (h:r ≤ I):wd s r < 2 * S:=by
 have:=I_lt_S
 unfold wd;split <;> omega
theorem not_nan (s:Bool) {r:Nat} (h:r ≤ I):isNan (wd s r) = false:=by
 have:=I_lt_S
 have e:wd s r % S = r:=by
  cases s
  ·rw [wd_false,Nat.mod_eq_of_lt (by omega)]
  ·show (S + r) % S = r
   rw [Nat.add_mod_left,Nat.mod_eq_of_lt (by omega)]
 unfold isNan;rw [e];exact decide_eq_false (by omega)
theorem fo_gt (s t:Bool) {r q:Nat} (hr:r ≤ I) (hq:q ≤ I) (h:sg t q < sg s r):FloatKind.f64.format.order (wd s r) (wd t q) = some .gt:=by
 rw [fo_num s t hr hq,Int.compare_eq_gt.2 h]
theorem sg_f (r:Nat):sg false r = (r:Int):=rfl
end Fl
end
section
open Go.RowKit
namespace Fl
theorem rtop_any (w:World):Calls Tryz.prog 172 #[] w fun e w' => e = .returned (.int .u64 9223372036854775808) ∧ w = w':=by
 go_enter Tryz.func172,Tryz.ntmps172;go_wp2_with fail;go_ret;exact ⟨rfl,rfl⟩
theorem rnone_any (w:World):Calls Tryz.prog 170 #[] w fun e w' => e = .returned (.int .u64 9221120237041090560) ∧ w = w':=by
 go_enter Tryz.func170,Tryz.ntmps170;go_wp2_with fail;go_ret;exact ⟨rfl,rfl⟩
theorem rminus_num (s:Bool) (r:Nat) (w:World) (hr:r ≤ I) :
  Calls Tryz.prog 171 #[.float .f64 (wd s r)] w fun e w' => e = .returned (.bool s) ∧ w = w':=by
 rcases Nat.eq_zero_or_pos r with h0 | h0
 ·subst h0
  have ho:=fo_zero s
  cases s
  ·have hd:=run_div (a:=4607182418800017408) (b:=wd false 0) (r:=wd false I) (by decide +kernel)
   have hi:=fo_pos (r:=I) (by decide) (Nat.le_refl _);generalize wd false 0 = b at *;generalize wd false I = c at *;go_enter Tryz.func171,Tryz.ntmps171;go_wp2_with fail;go_ret;exact ⟨rfl,rfl⟩
  ·have hd:=run_div (a:=4607182418800017408) (b:=wd true 0) (r:=wd true I) (by decide +kernel)
   have hi:=fo_neg (r:=I) (by decide) (Nat.le_refl _);generalize wd true 0 = b at *;generalize wd true I = c at *;go_enter Tryz.func171,Tryz.ntmps171;go_wp2_with fail;go_ret;exact ⟨rfl,rfl⟩
 ·cases s
  ·have ho:=fo_pos h0 hr
   generalize wd false r = b at *;go_enter Tryz.func171,Tryz.ntmps171;go_wp2_with fail;go_ret;exact ⟨rfl,rfl⟩
  ·have ho:=fo_neg h0 hr
   generalize wd true r = b at *;go_enter Tryz.func171,Tryz.ntmps171;go_wp2_with fail;go_ret;exact ⟨rfl,rfl⟩
theorem rbits_nan (b:Nat) (w:World) (hb:b < 2 * S) (h:isNan b = true) :
  Calls Tryz.prog 125 #[.float .f64 b] w fun e w' => e = .returned (.int .u64 (nanU:Nat)) ∧ w = w':=by
 have ho:FloatKind.f64.format.order b b = none:=order_nan_left b b hb h;go_enter Tryz.func125,Tryz.ntmps125;go_wp2_with fail;refine (rnone_any _).mono ?_
 rintro e w' ⟨rfl,rfl⟩;go_wp2_with fail;go_ret;exact ⟨rfl,rfl⟩
theorem rbits_zero (s:Bool) (w:World) :
  Calls Tryz.prog 125 #[.float .f64 (wd s 0)] w fun e w' => e = .returned (.int .u64 (wd s 0:Nat)) ∧ w = w':=by
 have ho:=fo_zero false;have he:=order_self (wd_lt s (r:=0) (by decide)) (not_nan s (by decide))
 cases s
 ·go_enter Tryz.func125,Tryz.ntmps125
  go_wp2_with fail;refine (rminus_num false 0 _ (by decide)).mono ?_
  rintro e w' ⟨rfl,rfl⟩;go_wp2_with fail;go_ret;exact ⟨rfl,rfl⟩
 ·have hn:=run_neg true (r:=0) (by decide)
  go_enter Tryz.func125,Tryz.ntmps125;go_wp2_with fail;refine (rminus_num true 0 _ (by decide)).mono ?_
  rintro e w' ⟨rfl,rfl⟩;go_wp2_with fail;refine (rtop_any _).mono ?_
  rintro e w' ⟨rfl,rfl⟩;go_wp2_with fail;go_ret;exact ⟨rfl,rfl⟩
theorem rbits_inf (s:Bool) (w:World) :
  Calls Tryz.prog 125 #[.float .f64 (wd s I)] w fun e w' => e = .returned (.int .u64 (wd s I:Nat)) ∧ w = w':=by
 have he:=order_self (wd_lt s (Nat.le_refl I)) (not_nan s (Nat.le_refl I));have he':=eq_self (r:=I) (Nat.le_refl _);have ho:FloatKind.f64.format.order (wd false I) 0 = some .gt:=fo_pos (by decide) (Nat.le_refl _);have hd:=run_mul (a:=wd false I) (b:=4611686018427387904) (r:=wd false I) (by decide +kernel)
 cases s
 ·go_enter Tryz.func125,Tryz.ntmps125
  go_wp2_with fail;refine (rminus_num false I _ (Nat.le_refl _)).mono ?_
  rintro e w' ⟨rfl,rfl⟩;go_wp2_with fail;go_ret;exact ⟨rfl,rfl⟩
 ·have hn:=run_neg true (r:=I) I_lt_S
  go_enter Tryz.func125,Tryz.ntmps125;go_wp2_with fail;refine (rminus_num true I _ (Nat.le_refl _)).mono ?_
  rintro e w' ⟨rfl,rfl⟩;go_wp2_with fail;refine (rtop_any _).mono ?_
  rintro e w' ⟨rfl,rfl⟩;go_wp2_with fail;go_ret;exact ⟨rfl,rfl⟩
end Fl
end
section
open Go.RowKit
namespace Fl
theorem two_R:4611686018427387904 = R 1 1075:=by decide +kernel
theorem one_R:4607182418800017408 = R 1 1074:=by decide +kernel
theorem half_R:4602678819172646912 = R 1 1073:=by decide +kernel
theorem mul_two {m j:Nat} (hm:m < 2 * B) (hf:R m (j + 1) < I):Ieee.double.mul (R m j) 4611686018427387904 = some (R m (j + 1)):=by
 have:=mul_pow false (m:=m) (j:=j) (i:=1075) hm (Nat.lt_of_le_of_lt (R_mono hm (by omega)) hf) (by decide +kernel) (by omega);rw [wd_false,wd_false,show j + 1075 - 1074 = j + 1 from by omega,Nat.min_eq_left (Nat.le_of_lt hf)] at this
 rw [two_R];exact this
theorem mul_half {m j:Nat} (hm:m < 2 * B) (hf:R m j < I) (hj:1 ≤ j):Ieee.double.mul (R m j) 4602678819172646912 = some (R m (j - 1)):=by
 have hf':R m (j - 1) < I:=Nat.lt_of_le_of_lt (R_mono hm (by omega)) hf;have:=mul_pow false (m:=m) (j:=j) (i:=1073) hm hf (by decide +kernel) (by omega);rw [wd_false,wd_false,show j + 1073 - 1074 = j - 1 from by omega,Nat.min_eq_left (Nat.le_of_lt hf')] at this
 rw [half_R];exact this
theorem rbits_fin (s:Bool) (r:Nat) (w:World) (h0:0 < r) (hr:r < I) :
  Calls Tryz.prog 125 #[.float .f64 (wd s r)] w fun e w' => e = .returned (.int .u64 (wd s r:Nat)) ∧ w = w':=by
 have hself:=R_self r;have hm0:=mg_pos h0;have hm:=mg_lt r;have hlog:=log2_of_fin h0 hr;generalize mg r = m at *;generalize pl r = j at *;subst hself;obtain ⟨n1,n2,n3⟩:=norm_range hm0 hm;have he:=order_self (wd_lt s (Nat.le_of_lt hr)) (not_nan s (Nat.le_of_lt hr));have ho:FloatKind.f64.format.order (wd false (R m j)) 0 = some .gt:=fo_pos h0 (Nat.le_of_lt hr)
 have hd:=run_mul (a:=wd false (R m j)) (b:=4611686018427387904) (r:=wd false (min (R m (j + 1)) I)) (by
  have:=mul_pow false (m:=m) (j:=j) (i:=1075) hm hr (by decide +kernel) (by omega);rw [show j + 1075 - 1074 = j + 1 from by omega] at this
  rw [two_R];exact this)
 have hlt:FloatKind.f64.format.order (wd false (min (R m (j + 1)) I)) (wd false (R m j)) = some .gt:=by
  refine fo_gt _ _ (Nat.min_le_right _ _) (Nat.le_of_lt hr) ?_
  have h1:R m j < R m (j + 1):=by
   have a:=@R_le m (j + 1) m j hm hm
   have b:¬ m * 2 ^ (j + 1) ≤ m * 2 ^ j:=by
    rw [Nat.pow_succ,← Nat.mul_assoc];have:=Nat.mul_pos hm0 (Nat.two_pow_pos j);omega
   omega
  rw [sg_f,sg_f];omega
 have hnf:∀ w,(Op.unary .neg (.float .f64 (wd true (R m j)))).run Tryz.prog w = .ok (.float .f64 (wd false (R m j))) w:=fun w => run_neg true (r:=R m j) (by have:=I_lt_S;omega) w
 have HM:=hid (fun s w => rminus_num s (R m j) w (Nat.le_of_lt hr));have HW:=hid (show ∀ s,wd s (R m j) = (if s then 9223372036854775808 else 0) + R m j from fun s => by cases s <;> simp [wd,S])
 have HR:Hid (R m j = if m.log2 + j < 52 then m * 2 ^ j else (m.log2 + j - 51) * 4503599627370496 + (m * 2 ^ (52 - m.log2) - 4503599627370496)):=hid (by
  have hB:B = 4503599627370496:=rfl;unfold R;rw [if_neg (by omega)]
  by_cases h:m.log2 + j < 52
  ·rw [if_pos h,if_pos h]
  ·rw [if_neg h,if_neg h,show m.log2 + j - 51 = (m.log2 + j - 52) + 1 from by omega,Nat.succ_mul,hB]
   omega)
 have HS:=hid (hr);have HI:Hid (I = 9218868437227405312):=hid rfl
 have hfin:∀ i,m.log2 + i < 2098 → R m i < I:=fun i h => fin_of hm0 hm h
 replace hfin:=hid hfin;have HM2:=hid hm;have HM0:=hid hm0;have HN1:=hid n1;have HN2:=hid n2;generalize hQ:wd false (min (R m (j + 1)) I) = Q at *;clear hQ h0 hr hm hm0 n1 n2;have HMF:=hid (HM.out false);have HMT:=hid (HM.out true);have hF':Hid (wd false (R m j) = R m j):=hid (wd_false _);have hT':Hid (wd true (R m j) = 9223372036854775808 + R m j):=hid rfl;clear HM HW
 cases s
 ·generalize wd false (R m j) = F at *
  generalize wd true (R m j) = T at *;go_enter Tryz.func125,Tryz.ntmps125;go_wp2_with fail;refine (HMF.out _).mono ?_
  rintro e w' ⟨rfl,rfl⟩;go_wp2_with fail;clear hd hlt ho he hnf
  go_loop [0,4] (fun f e => ∃ i E:Nat,f = .float .f64 (R m i) ∧ e = .int .u64 (E:Nat) ∧ E + i = 1023 + j ∧ 1 ≤ E ∧ m.log2 + i < 2098) (fun _ e => (4096 - intOf e).toNat)
  case atStart => exact ⟨j,1023,by rw [hF'.out],rfl,rfl,by omega,hlog⟩
  case round =>
   obtain ⟨i,E,rfl,rfl,hE,hE1,hi⟩:=hrel
   by_cases hge:1075 ≤ m.log2 + i
   ·have hmul:=run_mul (mul_half HM2.out (hfin.out i hi) (by omega))
    have ho:FloatKind.f64.format.order (R m i) 4611686018427387904 = some .gt ∨ FloatKind.f64.format.order (R m i) 4611686018427387904 = some .eq:=by
     rw [two_R];exact pow_ge HM0.out HM2.out (hfin.out i hi) hge
    rcases ho with ho | ho
    all_goals
     go_wp2_with fail
     go_round
     case rel => exact ⟨i - 1,E + 1,rfl,by go_num,by omega,by omega,by omega⟩
     case measure => simp [intOf];omega
   ·have ho:FloatKind.f64.format.order (R m i) 4611686018427387904 = some .lt:=by
     rw [two_R];exact pow_lt HM0.out HM2.out (by decide) (by omega)
    go_wp2_with fail;clear ho
    go_loop [0,4] (fun f e => ∃ i E:Nat,f = .float .f64 (R m i) ∧ e = .int .u64 (E:Nat) ∧ E + i = 1023 + j ∧ 1 ≤ E ∧ m.log2 + i ≤ 1074) (fun _ e => (intOf e).toNat)
    case atStart => exact ⟨i,E,rfl,rfl,hE,hE1,by omega⟩
    case round =>
     clear hE hE1 hi hge;obtain ⟨i,E,rfl,rfl,hE,hE1,hi⟩:=hrel
     by_cases hlt:m.log2 + i < 1074
     ·have ho:FloatKind.f64.format.order (R m i) 4607182418800017408 = some .lt:=by
       rw [one_R];exact pow_lt HM0.out HM2.out (by decide) (by omega)
      by_cases h1:1 < E
      ·have hmul:=run_mul (mul_two HM2.out (hfin.out (i + 1) (by omega)))
       go_wp2_with fail
       go_round
       case rel => exact ⟨i + 1,E - 1,rfl,by go_num,by omega,by omega,by omega⟩
       case measure => simp [intOf];omega
      ·obtain rfl:E = 1:=by omega
       obtain rfl:i = 1022 + j:=by omega
       clear hE hE1 h1;go_wp2_with fail;clear ho
       have hjj:m.log2 + j < 52:=by omega
       have hp:m * 2 ^ j ≤ m * 2 ^ (52 - m.log2):=Nat.mul_le_mul_left _ (Nat.pow_le_pow_right (by decide) (by omega));have hV:m * 2 ^ j < 2 * B:=Nat.lt_of_le_of_lt hp HN2.out;have hB:B = 4503599627370496:=rfl
       have hc:=run_to_u64 (a:=R m (1022 + j + 52)) (n:=m * 2 ^ j) (by
        rw [show 1022 + j + 52 = j + 1074 from by omega,← R_move hV]
        exact to_whole hV (whole_fin hV)) (by omega)
       have hR:=HR.out;rw [if_pos hjj] at hR;have hfinal:=hid (show (m * 2 ^ j:Nat) = R m j from hR.symm);replace hV:m * 2 ^ j < 9007199254740992:=hV;clear hR hp HR HN2 HN1 hB;generalize m * 2 ^ j = V at *
       go_loop [0,5] (fun f x => ∃ k:Nat,k ≤ 52 ∧ x = .int .i64 (k:Nat) ∧ f = .float .f64 (R m (1022 + j + k))) (fun _ x => 52 - (intOf x).toNat)
       case atStart => exact ⟨0,by omega,by go_num,rfl⟩
       case round =>
        obtain ⟨k,hk,rfl,rfl⟩:=hrel
        by_cases hk1:k < 52
        ·have hmul:=run_mul (mul_two HM2.out (hfin.out (1022 + j + k + 1) (by omega)))
         go_wp2_with fail
         go_round
         case rel => exact ⟨k + 1,by omega,by go_num,rfl⟩
         case measure => simp [intOf];omega
        ·obtain rfl:k = 52:=by omega
         go_wp2_with fail;go_ret;refine ⟨ret_u64 ?_,rfl⟩
         rw [hF'.out,← hfinal.out]
         all_goals omega
     ·have ho:FloatKind.f64.format.order (R m i) 4607182418800017408 = some .gt ∨ FloatKind.f64.format.order (R m i) 4607182418800017408 = some .eq:=by
       rw [one_R];exact pow_ge HM0.out HM2.out (hfin.out i (by omega)) (by omega)
      have hsub:=run_sub (a:=R m i) (b:=4607182418800017408) (r:=R (m * 2 ^ (52 - m.log2) - B) 1022) (by
       have e:=R_move (m:=m) (a:=52 - m.log2) (j:=1022) HN2.out;rw [show 52 - m.log2 + 1022 = i from by omega] at e;rw [← e,one_R]
       exact sub_one HN1.out HN2.out)
      rcases ho with ho | ho
      all_goals
       go_wp2_with fail;clear ho;have hB:B = 4503599627370496:=rfl
       have hN:m * 2 ^ (52 - m.log2) - B < 2 * B:=by have:=HN2.out;omega
       have hc:=run_to_u64 (a:=R (m * 2 ^ (52 - m.log2) - B) (1022 + 52)) (n:=m * 2 ^ (52 - m.log2) - B) (to_whole hN (whole_fin hN)) (by omega);have hR:=HR.out;rw [if_neg (show ¬ m.log2 + j < 52 by omega),show m.log2 + j - 51 = E from by omega] at hR;have hNN:=hid hN
       have hE2:(E:Int) ≤ 2046:=by omega
       have hf3:∀ k,k ≤ 52 → R (m * 2 ^ (52 - m.log2) - B) (1022 + k) < I:=fun k hk => Nat.lt_of_le_of_lt (R_mono hN (show 1022 + k ≤ 1074 by omega)) (whole_fin hN)
       have HF3:=hid hf3;rw [← hB] at hR
       have hN3:m * 2 ^ (52 - m.log2) - B < 9007199254740992:=by omega
       clear hsub HR HN2 HN1 hf3 hN;generalize m * 2 ^ (52 - m.log2) - B = N at *;have hfinal:=hid hR;clear hR hB
       go_loop [0,5] (fun f x => ∃ k:Nat,k ≤ 52 ∧ x = .int .i64 (k:Nat) ∧ f = .float .f64 (R N (1022 + k))) (fun _ x => 52 - (intOf x).toNat)
       case atStart => exact ⟨0,by omega,by go_num,rfl⟩
       case round =>
        obtain ⟨k,hk,rfl,rfl⟩:=hrel
        by_cases hk1:k < 52
        ·have hmul:=run_mul (mul_two (m:=N) (j:=1022 + k) hNN.out (HF3.out (k + 1) (by omega)))
         go_wp2_with fail
         go_round
         case rel => exact ⟨k + 1,by omega,by go_num,rfl⟩
         case measure => simp [intOf];omega
        ·obtain rfl:k = 52:=by omega
         go_wp2_with fail;go_ret;refine ⟨ret_u64 ?_,rfl⟩
         rw [hF'.out,hfinal.out]
         show _ = (((_:Nat)):Int)
         have hb:B = 4503599627370496:=rfl;rw [hb]
         all_goals omega
 ·generalize wd false (R m j) = F at *
  generalize wd true (R m j) = T at *;go_enter Tryz.func125,Tryz.ntmps125;go_wp2_with fail;refine (HMT.out _).mono ?_
  rintro e w' ⟨rfl,rfl⟩;go_wp2_with fail;refine (rtop_any _).mono ?_
  rintro e w' ⟨rfl,rfl⟩;go_wp2_with fail;clear hd hlt ho he hnf
  go_loop [0,4] (fun f e => ∃ i E:Nat,f = .float .f64 (R m i) ∧ e = .int .u64 (E:Nat) ∧ E + i = 1023 + j ∧ 1 ≤ E ∧ m.log2 + i < 2098) (fun _ e => (4096 - intOf e).toNat)
  case atStart => exact ⟨j,1023,by rw [hF'.out],rfl,rfl,by omega,hlog⟩
  case round =>
   obtain ⟨i,E,rfl,rfl,hE,hE1,hi⟩:=hrel
   by_cases hge:1075 ≤ m.log2 + i
   ·have hmul:=run_mul (mul_half HM2.out (hfin.out i hi) (by omega))
    have ho:FloatKind.f64.format.order (R m i) 4611686018427387904 = some .gt ∨ FloatKind.f64.format.order (R m i) 4611686018427387904 = some .eq:=by
     rw [two_R];exact pow_ge HM0.out HM2.out (hfin.out i hi) hge
    rcases ho with ho | ho
    all_goals
     go_wp2_with fail
     go_round
     case rel => exact ⟨i - 1,E + 1,rfl,by go_num,by omega,by omega,by omega⟩
     case measure => simp [intOf];omega
   ·have ho:FloatKind.f64.format.order (R m i) 4611686018427387904 = some .lt:=by
     rw [two_R];exact pow_lt HM0.out HM2.out (by decide) (by omega)
    go_wp2_with fail;clear ho
    go_loop [0,4] (fun f e => ∃ i E:Nat,f = .float .f64 (R m i) ∧ e = .int .u64 (E:Nat) ∧ E + i = 1023 + j ∧ 1 ≤ E ∧ m.log2 + i ≤ 1074) (fun _ e => (intOf e).toNat)
    case atStart => exact ⟨i,E,rfl,rfl,hE,hE1,by omega⟩
    case round =>
     clear hE hE1 hi hge;obtain ⟨i,E,rfl,rfl,hE,hE1,hi⟩:=hrel
     by_cases hlt:m.log2 + i < 1074
     ·have ho:FloatKind.f64.format.order (R m i) 4607182418800017408 = some .lt:=by
       rw [one_R];exact pow_lt HM0.out HM2.out (by decide) (by omega)
      by_cases h1:1 < E
      ·have hmul:=run_mul (mul_two HM2.out (hfin.out (i + 1) (by omega)))
       go_wp2_with fail
       go_round
       case rel => exact ⟨i + 1,E - 1,rfl,by go_num,by omega,by omega,by omega⟩
       case measure => simp [intOf];omega
      ·obtain rfl:E = 1:=by omega
       obtain rfl:i = 1022 + j:=by omega
       clear hE hE1 h1;go_wp2_with fail;clear ho
       have hjj:m.log2 + j < 52:=by omega
       have hp:m * 2 ^ j ≤ m * 2 ^ (52 - m.log2):=Nat.mul_le_mul_left _ (Nat.pow_le_pow_right (by decide) (by omega));have hV:m * 2 ^ j < 2 * B:=Nat.lt_of_le_of_lt hp HN2.out;have hB:B = 4503599627370496:=rfl
       have hc:=run_to_u64 (a:=R m (1022 + j + 52)) (n:=m * 2 ^ j) (by
        rw [show 1022 + j + 52 = j + 1074 from by omega,← R_move hV]
        exact to_whole hV (whole_fin hV)) (by omega)
       have hR:=HR.out;rw [if_pos hjj] at hR;have hfinal:=hid (show (m * 2 ^ j:Nat) = R m j from hR.symm);replace hV:m * 2 ^ j < 9007199254740992:=hV;clear hR hp HR HN2 HN1 hB;generalize m * 2 ^ j = V at *
       go_loop [0,5] (fun f x => ∃ k:Nat,k ≤ 52 ∧ x = .int .i64 (k:Nat) ∧ f = .float .f64 (R m (1022 + j + k))) (fun _ x => 52 - (intOf x).toNat)
       case atStart => exact ⟨0,by omega,by go_num,rfl⟩
       case round =>
        obtain ⟨k,hk,rfl,rfl⟩:=hrel
        by_cases hk1:k < 52
        ·have hmul:=run_mul (mul_two HM2.out (hfin.out (1022 + j + k + 1) (by omega)))
         go_wp2_with fail
         go_round
         case rel => exact ⟨k + 1,by omega,by go_num,rfl⟩
         case measure => simp [intOf];omega
        ·obtain rfl:k = 52:=by omega
         go_wp2_with fail;go_ret;refine ⟨ret_u64 ?_,rfl⟩
         rw [hT'.out,← hfinal.out]
         all_goals omega
     ·have ho:FloatKind.f64.format.order (R m i) 4607182418800017408 = some .gt ∨ FloatKind.f64.format.order (R m i) 4607182418800017408 = some .eq:=by
       rw [one_R];exact pow_ge HM0.out HM2.out (hfin.out i (by omega)) (by omega)
      have hsub:=run_sub (a:=R m i) (b:=4607182418800017408) (r:=R (m * 2 ^ (52 - m.log2) - B) 1022) (by
       have e:=R_move (m:=m) (a:=52 - m.log2) (j:=1022) HN2.out;rw [show 52 - m.log2 + 1022 = i from by omega] at e;rw [← e,one_R]
       exact sub_one HN1.out HN2.out)
      rcases ho with ho | ho
      all_goals
       go_wp2_with fail;clear ho;have hB:B = 4503599627370496:=rfl
       have hN:m * 2 ^ (52 - m.log2) - B < 2 * B:=by have:=HN2.out;omega
       have hc:=run_to_u64 (a:=R (m * 2 ^ (52 - m.log2) - B) (1022 + 52)) (n:=m * 2 ^ (52 - m.log2) - B) (to_whole hN (whole_fin hN)) (by omega);have hR:=HR.out;rw [if_neg (show ¬ m.log2 + j < 52 by omega),show m.log2 + j - 51 = E from by omega] at hR;have hNN:=hid hN
       have hE2:(E:Int) ≤ 2046:=by omega
       have hf3:∀ k,k ≤ 52 → R (m * 2 ^ (52 - m.log2) - B) (1022 + k) < I:=fun k hk => Nat.lt_of_le_of_lt (R_mono hN (show 1022 + k ≤ 1074 by omega)) (whole_fin hN)
       have HF3:=hid hf3;rw [← hB] at hR
       have hN3:m * 2 ^ (52 - m.log2) - B < 9007199254740992:=by omega
       clear hsub HR HN2 HN1 hf3 hN;generalize m * 2 ^ (52 - m.log2) - B = N at *;have hfinal:=hid hR;clear hR hB
       go_loop [0,5] (fun f x => ∃ k:Nat,k ≤ 52 ∧ x = .int .i64 (k:Nat) ∧ f = .float .f64 (R N (1022 + k))) (fun _ x => 52 - (intOf x).toNat)
       case atStart => exact ⟨0,by omega,by go_num,rfl⟩
       case round =>
        obtain ⟨k,hk,rfl,rfl⟩:=hrel
        by_cases hk1:k < 52
        ·have hmul:=run_mul (mul_two (m:=N) (j:=1022 + k) hNN.out (HF3.out (k + 1) (by omega)))
         go_wp2_with fail
         go_round
         case rel => exact ⟨k + 1,by omega,by go_num,rfl⟩
         case measure => simp [intOf];omega
        ·obtain rfl:k = 52:=by omega
         go_wp2_with fail;go_ret;refine ⟨ret_u64 ?_,rfl⟩
         rw [hT'.out,hfinal.out]
         show _ = (((_:Nat)):Int)
         have hb:B = 4503599627370496:=rfl;rw [hb]
         all_goals omega
end Fl
end
section
open Go.RowKit
namespace Fl
theorem rbits_any (b:Nat) (w:World) (hb:b < 2 * S) :
  Calls Tryz.prog 125 #[.float .f64 b] w fun e w' => e = .returned (.int .u64 (canon b:Nat)) ∧ w = w':=by
 unfold canon
 by_cases h:isNan b = true
 ·rw [if_pos h];exact rbits_nan b w hb h
 ·rw [if_neg h]
  have hr:b % S ≤ I:=by unfold isNan at h;simpa using h
  rw [wd_of b hb];generalize b % S = r at *;generalize neg b = s
  rcases Nat.eq_zero_or_pos r with h0 | h0
  ·subst h0;exact rbits_zero s w
  ·rcases Nat.lt_or_ge r I with h1 | h1
   ·exact rbits_fin s r w h0 h1
   ·obtain rfl:r = I:=by omega
    exact rbits_inf s w
theorem rsame_any (a b:Nat) (w:World) (ha:a < 2 * S) (hb:b < 2 * S) :
  Calls Tryz.prog 80 #[.float .f64 a,.float .f64 b] w fun e w' => e = .returned (.bool (canon a == canon b)) ∧ w = w':=by
 have h:=nat_beq (canon a) (canon b);have HA:=hid (fun w => rbits_any a w ha);have HB:=hid (fun w => rbits_any b w hb);go_enter Tryz.func80,Tryz.ntmps80;go_wp2_with fail;refine (HA.out _).mono ?_
 rintro e w1 ⟨rfl,rfl⟩;go_wp2_with fail;refine (HB.out _).mono ?_
 rintro e w2 ⟨rfl,rfl⟩;go_wp2_with fail;go_ret;exact ⟨rfl,rfl⟩
end Fl
end
section
open Go.RowKit Go.Shelf
attribute [local go_sem] Fl.run_store_float
namespace Rf
open Mem Tp Tr Mo Fo Sn Og St Pl
theorem nm_eq (x y:ByteArray):(x.toList == y.toList) = true ↔ x = y:=by
 rw [beq_iff_eq,ByteArray.toList_eq,ByteArray.toList_eq]
 constructor
 ·intro h
  cases x;cases y
  simp only at h
  congr 1
  exact Array.toList_inj.1 h
 ·rintro rfl;rfl
theorem nrmR_dec (a b:Rw):decide (nrmR a = nrmR b) = (a.ch == b.ch && (a.pa == b.pa && ((a.nm.toList == b.nm.toList) && (Fl.canon a.rk == Fl.canon b.rk)))):=by
 obtain ⟨a1,a2,a3,a4⟩:=a;obtain ⟨b1,b2,b3,b4⟩:=b;rw [Bool.eq_iff_iff];simp only [nrmR,decide_eq_true_eq,Rw.mk.injEq,Bool.and_eq_true,nm_eq,beq_iff_eq (α:=Int),beq_iff_eq (α:=Nat)]
theorem alike_any (a b:Rw) (w:World) (ha:a.rk < 2 * Fl.S) (hb:b.rk < 2 * Fl.S) :
  Calls Tryz.prog 41 #[rowV a,rowV b] w fun e w' => e = .returned (.bool (decide (nrmR a = nrmR b))) ∧ Below w.heap.size w w':=by
 have HS:=hid (fun W => Fl.rsame_any a.rk b.rk W ha hb);rw [nrmR_dec];obtain ⟨W0,hW0⟩:∃ W0,lay w [.cells #[.int .i64 a.ch,.int .i64 a.pa,.string a.nm,.float .f64 a.rk] 96,.cells #[.int .i64 b.ch,.int .i64 b.pa,.string b.nm,.float .f64 b.rk] 96] = W0:=⟨_,rfl⟩
 have hb0:Below w.heap.size w W0:=by rw [← hW0];exact lay_below _ _
 have hs0:W0.heap.size = w.heap.size + 2:=by rw [← hW0];exact lay_size _ _
 have g0:W0.heap[w.heap.size]? = some (.cells #[.int .i64 a.ch,.int .i64 a.pa,.string a.nm,.float .f64 a.rk] 96 (0,0)):=by rw [← hW0];exact lay_at _ w 0 _ rfl
 have g1:W0.heap[w.heap.size + 1]? = some (.cells #[.int .i64 b.ch,.int .i64 b.pa,.string b.nm,.float .f64 b.rk] 96 (0,0)):=by rw [← hW0];exact lay_at _ w 1 _ rfl
 have a0:W0.cell? ⟨w.heap.size,0,none⟩ = some (.int .i64 a.ch):=cell_at g0 0;have a1:W0.cell? ⟨w.heap.size,1,none⟩ = some (.int .i64 a.pa):=cell_at g0 1;have a2:W0.cell? ⟨w.heap.size,2,none⟩ = some (.string a.nm):=cell_at g0 2;have a3:W0.cell? ⟨w.heap.size,3,none⟩ = some (.float .f64 a.rk):=cell_at g0 3;have b0:W0.cell? ⟨w.heap.size + 1,0,none⟩ = some (.int .i64 b.ch):=cell_at g1 0;have b1:W0.cell? ⟨w.heap.size + 1,1,none⟩ = some (.int .i64 b.pa):=cell_at g1 1;have b2:W0.cell? ⟨w.heap.size + 1,2,none⟩ = some (.string b.nm):=cell_at g1 2
 have b3:W0.cell? ⟨w.heap.size + 1,3,none⟩ = some (.float .f64 b.rk):=cell_at g1 3;obtain ⟨ea,eb⟩:∃ q,(a.ch == b.ch) = q:=⟨_,rfl⟩;obtain ⟨ec,ed⟩:∃ q,(a.pa == b.pa) = q:=⟨_,rfl⟩;obtain ⟨ee,ef⟩:∃ q,(a.nm.toList == b.nm.toList) = q:=⟨_,rfl⟩;rw [eb,ed,ef];simp only [lay,List.foldl_cons,List.foldl_nil] at hW0;rw [← hW0] at a0 a1 a2 a3 b0 b1 b2 b3;replace hb0:=hid hb0;replace hW0:=hid hW0;replace g0:=hid g0;replace g1:=hid g1;unfold rowV;go_enter Tryz.func41,Tryz.ntmps41
 cases ea with
 | false =>
  go_wp2_with fail;rw [hW0.out];go_ret;exact ⟨rfl,hb0.out⟩
 | true =>
  cases ec with
  | false =>
   go_wp2_with fail;rw [hW0.out];go_ret;exact ⟨rfl,hb0.out⟩
  | true =>
   cases ee with
   | false =>
    go_wp2_with fail;rw [hW0.out];go_ret;exact ⟨rfl,hb0.out⟩
   | true =>
    go_wp2_with fail;refine (HS.out _).mono ?_
    rintro e w1 ⟨rfl,rfl⟩;rw [hW0.out];go_wp2_with fail;go_ret;exact ⟨rfl,hb0.out⟩
theorem nrmM_dec (a b:Mv):decide (nrmM a = nrmM b) = (decide (a.t = b.t) && decide (nrmR (rowOf a) = nrmR (rowOf b))):=by
 obtain ⟨a0,a1,a2,a3,a4⟩:=a;obtain ⟨b0,b1,b2,b3,b4⟩:=b;rw [Bool.eq_iff_iff];simp only [nrmM,nrmR,rowOf,decide_eq_true_eq,Mv.mk.injEq,Rw.mk.injEq,Bool.and_eq_true]
 constructor
 ·rintro ⟨h0,h1,h2,h3,h4⟩;exact ⟨h0,h2,h1,h3,h4⟩
 ·rintro ⟨h0,h2,h1,h3,h4⟩;exact ⟨h0,h1,h2,h3,h4⟩
theorem row_any (m:Mv) (w:World) :
  Calls Tryz.prog 103 #[movV m] w fun e w' => e = .returned (rowV (rowOf m)) ∧ Below w.heap.size w w':=by
 obtain ⟨i0,hinf,hz0,hz1,hz2⟩:=info_parts infoRow
 have hszr:(Tryz.prog.info? 96).map (·.size) = some (rowC (rowOf m)).length:=by rw [hinf];simp [hz1,rowC_len]
 have hb:=hid (fun x y => ((Below.refl w.heap.size w).alloc (Nat.le_refl _) x).alloc (by simp) y)
 have hg:∀ x y,((w.alloc x).alloc y).heap[w.heap.size + 1]? = some y:=fun x y => Mo.alloc_new_at _ (by simp)
 replace hg:=hid hg;unfold movV rowV;go_enter Tryz.func103,Tryz.ntmps103;go_wp2_with fail;unfold rowOf at *;refine bodyPost_ret (v:=.agg (rowC (rowOf m)).toArray) (results_cell_row rfl _ _ (w.heap.size + 1) 96 (rowC (rowOf m)).toArray (0,0) _ rfl (hg.out _ _) Tryz.underlying96 rfl (by rw [show rowOf m = _ from rfl];unfold rowOf;rw [hszr];rfl)) rfl ?_
 exact ⟨rfl,hb.out _ _⟩
theorem alikeM_any (a b:Mv) (w:World) (ha:a.rk < 2 * Fl.S) (hb:b.rk < 2 * Fl.S) :
  Calls Tryz.prog 59 #[movV a,movV b] w fun e w' => e = .returned (.bool (decide (nrmM a = nrmM b))) ∧ Below w.heap.size w w':=by
 rw [nrmM_dec];obtain ⟨W0,hW0⟩:∃ W0,lay w [.cells #[.int .i64 a.t.c,.int .i64 a.t.r,.int .i64 a.pa,.int .i64 a.ch,.string a.nm,.float .f64 a.rk] 49,.cells #[.int .i64 b.t.c,.int .i64 b.t.r,.int .i64 b.pa,.int .i64 b.ch,.string b.nm,.float .f64 b.rk] 49] = W0:=⟨_,rfl⟩
 have hb0:Below w.heap.size w W0:=by rw [← hW0];exact lay_below _ _
 have hs0:W0.heap.size = w.heap.size + 2:=by rw [← hW0];exact lay_size _ _
 have g0:W0.heap[w.heap.size]? = some (.cells #[.int .i64 a.t.c,.int .i64 a.t.r,.int .i64 a.pa,.int .i64 a.ch,.string a.nm,.float .f64 a.rk] 49 (0,0)):=by rw [← hW0];exact lay_at _ w 0 _ rfl
 have g1:W0.heap[w.heap.size + 1]? = some (.cells #[.int .i64 b.t.c,.int .i64 b.t.r,.int .i64 b.pa,.int .i64 b.ch,.string b.nm,.float .f64 b.rk] 49 (0,0)):=by rw [← hW0];exact lay_at _ w 1 _ rfl
 have hS1:=(Below.refl W0.heap.size W0).drew
 haveI hne:Nonempty (Held (Below W0.heap.size W0)):=⟨⟨_,hS1⟩⟩
 have a0:∀ q:Held (Below W0.heap.size W0),q.w.cell? ⟨w.heap.size,0,none⟩ = some (.int .i64 a.t.c):=fun q => cell_at (below_at q.h g0 (by omega)) 0
 have a1:∀ q:Held (Below W0.heap.size W0),q.w.cell? ⟨w.heap.size,1,none⟩ = some (.int .i64 a.t.r):=fun q => cell_at (below_at q.h g0 (by omega)) 1
 have a2:∀ q:Held (Below W0.heap.size W0),q.w.cell? ⟨w.heap.size,2,none⟩ = some (.int .i64 a.pa):=fun q => cell_at (below_at q.h g0 (by omega)) 2
 have a3:∀ q:Held (Below W0.heap.size W0),q.w.cell? ⟨w.heap.size,3,none⟩ = some (.int .i64 a.ch):=fun q => cell_at (below_at q.h g0 (by omega)) 3
 have a4:∀ q:Held (Below W0.heap.size W0),q.w.cell? ⟨w.heap.size,4,none⟩ = some (.string a.nm):=fun q => cell_at (below_at q.h g0 (by omega)) 4
 have a5:∀ q:Held (Below W0.heap.size W0),q.w.cell? ⟨w.heap.size,5,none⟩ = some (.float .f64 a.rk):=fun q => cell_at (below_at q.h g0 (by omega)) 5
 have b0:∀ q:Held (Below W0.heap.size W0),q.w.cell? ⟨w.heap.size + 1,0,none⟩ = some (.int .i64 b.t.c):=fun q => cell_at (below_at q.h g1 (by omega)) 0
 have b1:∀ q:Held (Below W0.heap.size W0),q.w.cell? ⟨w.heap.size + 1,1,none⟩ = some (.int .i64 b.t.r):=fun q => cell_at (below_at q.h g1 (by omega)) 1
 have b2:∀ q:Held (Below W0.heap.size W0),q.w.cell? ⟨w.heap.size + 1,2,none⟩ = some (.int .i64 b.pa):=fun q => cell_at (below_at q.h g1 (by omega)) 2
 have b3:∀ q:Held (Below W0.heap.size W0),q.w.cell? ⟨w.heap.size + 1,3,none⟩ = some (.int .i64 b.ch):=fun q => cell_at (below_at q.h g1 (by omega)) 3
 have b4:∀ q:Held (Below W0.heap.size W0),q.w.cell? ⟨w.heap.size + 1,4,none⟩ = some (.string b.nm):=fun q => cell_at (below_at q.h g1 (by omega)) 4
 have b5:∀ q:Held (Below W0.heap.size W0),q.w.cell? ⟨w.heap.size + 1,5,none⟩ = some (.float .f64 b.rk):=fun q => cell_at (below_at q.h g1 (by omega)) 5
 have HA:Hid (∀ q:Held (Below W0.heap.size W0),Calls Tryz.prog 103 #[movV a] q.w fun e w' => e = .returned (rowV (rowOf a)) ∧ ∃ q':Held (Below W0.heap.size W0),w' = q'.w):=
  hid (fun q => held_calls ((row_any a q.w).mono fun e w' (c:_ ∧ Below q.w.heap.size q.w w') => And.intro c.1 (q.h.trans (c.2.mono q.h.size))))
 have HB:Hid (∀ q:Held (Below W0.heap.size W0),Calls Tryz.prog 103 #[movV b] q.w fun e w' => e = .returned (rowV (rowOf b)) ∧ ∃ q':Held (Below W0.heap.size W0),w' = q'.w):=
  hid (fun q => held_calls ((row_any b q.w).mono fun e w' (c:_ ∧ Below q.w.heap.size q.w w') => And.intro c.1 (q.h.trans (c.2.mono q.h.size))))
 have HC:Hid (∀ q:Held (Below W0.heap.size W0),Calls Tryz.prog 41 #[rowV (rowOf a),rowV (rowOf b)] q.w fun e w' => e = .returned (.bool (decide (nrmR (rowOf a) = nrmR (rowOf b)))) ∧ ∃ q':Held (Below W0.heap.size W0),w' = q'.w):=
  hid (fun q => held_calls ((alike_any (rowOf a) (rowOf b) q.w ha hb).mono fun e w' (c:_ ∧ Below q.w.heap.size q.w w') => And.intro c.1 (q.h.trans (c.2.mono q.h.size))))
 generalize decide (nrmR (rowOf a) = nrmR (rowOf b)) = z at *;unfold movV at HA HB ⊢;unfold rowV rowOf at HA HB HC;simp only at HA HB HC;obtain ⟨⟨ac,ar⟩,ap,ach,an,ak⟩:=a;obtain ⟨⟨bc,br⟩,bp,bch,bn,bk⟩:=b;simp only at *
 have hq:decide ((⟨ac,ar⟩:Tm) = ⟨bc,br⟩) = (decide (ac = bc) && decide (ar = br)):=by rw [Bool.eq_iff_iff];simp
 rw [hq];simp only [lay,List.foldl_cons,List.foldl_nil] at hW0;replace hb0:=hid hb0;replace hW0:=hid hW0;replace g0:=hid g0;replace g1:=hid g1;clear hq hs0 ha hb
 rcases (show (ac = bc ∧ ar = br) ∨ (ac = bc ∧ ¬ ar = br) ∨ ¬ ac = bc by by_cases h1:ac = bc <;> by_cases h2:ar = br <;> simp [h1,h2]) with ⟨h1,h2⟩ | ⟨h1,h2⟩ | h1
 ·subst h1 h2
  rw [decide_eq_true (rfl:ac = ac),decide_eq_true (rfl:ar = ar)];simp only [Bool.true_and];go_enter Tryz.func59,Tryz.ntmps59;go_wp2_with fail;rw [hW0.out];refine wp_region_class (Below W0.heap.size W0) (by kernel_rfl) (by kernel_rfl) hS1 ?_
  repeat (go_big_quiet_step ((first | (go_at_call 103;(first | (with_reducible exact HA.out _) | (with_reducible exact HB.out _))) | (go_at_call 41;with_reducible exact HC.out _))))
  refine wpQuiet_nil ?_
  intro _ hw';obtain ⟨⟨Wq,hq⟩,hw''⟩:=hw';subst hw'';have hbq:=hid (hb0.out.trans (hq.mono hb0.out.size));clear hq hS1 HA HB HC hne a0 a1 a2 a3 a4 a5 b0 b1 b2 b3 b4 b5;go_wp2_with fail;go_ret;exact ⟨rfl,hbq.out⟩
 ·subst h1
  rw [decide_eq_false h2];simp only [Bool.and_false,Bool.false_and];go_enter Tryz.func59,Tryz.ntmps59;go_wp2_with fail;rw [hW0.out];refine wp_region_class (Below W0.heap.size W0) (by kernel_rfl) (by kernel_rfl) hS1 ?_
  repeat (go_big_quiet_step (fail))
  refine wpQuiet_nil ?_
  intro _ hw';obtain ⟨⟨Wq,hq⟩,hw''⟩:=hw';subst hw'';have hbq:=hid (hb0.out.trans (hq.mono hb0.out.size));clear hq hS1 HA HB HC hne a0 a1 a2 a3 a4 a5 b0 b1 b2 b3 b4 b5;go_wp2_with fail;go_ret;exact ⟨rfl,hbq.out⟩
 ·rw [decide_eq_false h1]
  simp only [Bool.false_and];go_enter Tryz.func59,Tryz.ntmps59;go_wp2_with fail;rw [hW0.out];refine wp_region_class (Below W0.heap.size W0) (by kernel_rfl) (by kernel_rfl) hS1 ?_
  repeat (go_big_quiet_step (fail))
  refine wpQuiet_nil ?_
  intro _ hw';obtain ⟨⟨Wq,hq⟩,hw''⟩:=hw';subst hw'';have hbq:=hid (hb0.out.trans (hq.mono hb0.out.size));clear hq hS1 HA HB HC hne a0 a1 a2 a3 a4 a5 b0 b1 b2 b3 b4 b5;go_wp2_with fail;go_ret;exact ⟨rfl,hbq.out⟩
end Rf
end
section
open Go.RowKit Go.Shelf
attribute [local go_sem] Fl.run_store_float
namespace Rf
open Mem Tp Tr Mo Fo Sn Og St Pl
theorem map_ne {α β:Type} {f:α → β} {a b:List α} {k:Nat} {x y:α} (hx:a[k]? = some x) (hy:b[k]? = some y) (h:¬ f x = f y):¬ a.map f = b.map f:=fun e => by
 have h1:(a.map f)[k]? = some (f x):=by rw [List.getElem?_map,hx];rfl
 have h2:(b.map f)[k]? = some (f y):=by rw [List.getElem?_map,hy];rfl
 rw [e,h2] at h1;exact h (Option.some.inj h1).symm
theorem map_eq {α β:Type} {f:α → β} {a b:List α} (hl:a.length = b.length) (h:∀ (j:Nat) (x y:α),a[j]? = some x → b[j]? = some y → f x = f y):a.map f = b.map f:=by
 refine List.ext_getElem? fun j => ?_
 rw [List.getElem?_map,List.getElem?_map]
 by_cases hj:j < a.length
 ·obtain ⟨x,hx⟩:=some_at hj
  obtain ⟨y,hy⟩:=some_at (l:=b) (k:=j) (by omega);rw [hx,hy];exact congrArg some (h j x y hx hy)
 ·rw [List.getElem?_eq_none (by omega),List.getElem?_eq_none (by omega)]
theorem sameR_any (va vb:Value) (a b:List Rw) (w:World) (hA:Mem.Rows w va a) (hB:Mem.Rows w vb b) (ha:∀ x ∈ a,x.rk < 2 * Fl.S) (hb:∀ x ∈ b,x.rk < 2 * Fl.S) (hl:a.length ≤ 5000) :
  Calls Tryz.prog 15 #[va,vb] w fun e w' => e = .returned (.bool (decide (a.map nrmR = b.map nrmR))) ∧ Below w.heap.size w w':=by
 obtain ⟨pa,ca,rfl⟩:=hA.len;obtain ⟨pb,cb,rfl⟩:=hB.len;have hB:Sl w (.slice pb b.length cb) b.length (b.flatMap rowC):=hB
 by_cases hlen:a.length = b.length
 ·replace hA:=hid hA
  replace hB:=hid hB;replace ha:=hid ha;replace hb:=hid hb;have hlen':=hid hlen;rw [← hlen];rw [← hlen] at hB;clear hlen;go_enter Tryz.func15,Tryz.ntmps15;go_wp2_with fail
  go_loopw [5] (fun i wr => ∃ k:Nat,i = .int .i64 k ∧ k ≤ a.length ∧ Hid (∀ (j:Nat) (x y:Rw),j < k → a[j]? = some x → b[j]? = some y → nrmR x = nrmR y) ∧ Hid (Below w.heap.size w wr)) (fun i _ => a.length - (intOf i).toNat)
  case atStart => exact ⟨0,rfl,by omega,hid (fun j x y h => absurd h (by omega)),hid (Below.refl _ _)⟩
  case round =>
   obtain ⟨k,rfl,hk,hq,hbr⟩:=hrel
   by_cases hlt:k < a.length
   ·have hlt':(k:Int) < (a.length:Nat):=by omega
    have hk0:(0:Int) ≤ (k:Int):=by omega
    obtain ⟨x,hx⟩:=some_at hlt;obtain ⟨y,hy⟩:=some_at (l:=b) (k:=k) (by have:=hlen'.out;omega);obtain ⟨ba,oa,rfl⟩:=hA.out.addr (by omega);obtain ⟨bb,ob,rfl⟩:=hB.out.addr (by omega);have hAr:=hA.out.below hbr.out;have hBr:=hB.out.below hbr.out;have hla:=sl_lt hAr (by omega);have hlb:=sl_lt hBr (by omega);obtain ⟨p0,p1,p2,p3⟩:=row_at hAr rfl hx;obtain ⟨r0,r1,r2,r3⟩:=row_at hBr hlen'.out.symm hy;have hS1:=(Below.refl wr.heap.size wr).drew
    haveI hne:Nonempty (Held (Below wr.heap.size wr)):=⟨⟨_,hS1⟩⟩
    have cx0:∀ q:Held (Below wr.heap.size wr),q.w.cell? ⟨ba,oa + k * 4,none⟩ = some (.int .i64 x.ch):=fun q => (q.h.cell (p:=⟨ba,oa + k * 4,none⟩) hla).trans p0
    have cx1:∀ q:Held (Below wr.heap.size wr),q.w.cell? ⟨ba,oa + k * 4 + 1,none⟩ = some (.int .i64 x.pa):=fun q => (q.h.cell (p:=⟨ba,oa + k * 4 + 1,none⟩) hla).trans p1
    have cx2:∀ q:Held (Below wr.heap.size wr),q.w.cell? ⟨ba,oa + k * 4 + 2,none⟩ = some (.string x.nm):=fun q => (q.h.cell (p:=⟨ba,oa + k * 4 + 2,none⟩) hla).trans p2
    have cx3:∀ q:Held (Below wr.heap.size wr),q.w.cell? ⟨ba,oa + k * 4 + 3,none⟩ = some (.float .f64 x.rk):=fun q => (q.h.cell (p:=⟨ba,oa + k * 4 + 3,none⟩) hla).trans p3
    have cy0:∀ q:Held (Below wr.heap.size wr),q.w.cell? ⟨bb,ob + k * 4,none⟩ = some (.int .i64 y.ch):=fun q => (q.h.cell (p:=⟨bb,ob + k * 4,none⟩) hlb).trans r0
    have cy1:∀ q:Held (Below wr.heap.size wr),q.w.cell? ⟨bb,ob + k * 4 + 1,none⟩ = some (.int .i64 y.pa):=fun q => (q.h.cell (p:=⟨bb,ob + k * 4 + 1,none⟩) hlb).trans r1
    have cy2:∀ q:Held (Below wr.heap.size wr),q.w.cell? ⟨bb,ob + k * 4 + 2,none⟩ = some (.string y.nm):=fun q => (q.h.cell (p:=⟨bb,ob + k * 4 + 2,none⟩) hlb).trans r2
    have cy3:∀ q:Held (Below wr.heap.size wr),q.w.cell? ⟨bb,ob + k * 4 + 3,none⟩ = some (.float .f64 y.rk):=fun q => (q.h.cell (p:=⟨bb,ob + k * 4 + 3,none⟩) hlb).trans r3
    have HC:Hid (∀ q:Held (Below wr.heap.size wr),Calls Tryz.prog 41 #[rowV x,rowV y] q.w fun e w' => e = .returned (.bool (decide (nrmR x = nrmR y))) ∧ ∃ q':Held (Below wr.heap.size wr),w' = q'.w):=
     hid (fun q => held_calls ((alike_any x y q.w (ha.out x (List.mem_of_getElem? hx)) (hb.out y (List.mem_of_getElem? hy))).mono fun e w' (c:_ ∧ Below q.w.heap.size q.w w') => And.intro c.1 (q.h.trans (c.2.mono q.h.size))))
    obtain ⟨z,hz⟩:∃ z,decide (nrmR x = nrmR y) = z:=⟨_,rfl⟩;rw [hz] at HC;unfold rowV at HC;replace hz:=hid hz;replace hx:=hid hx;replace hy:=hid hy;clear p0 p1 p2 p3 r0 r1 r2 r3 hAr hBr;go_wp2_with fail;refine wp_region_class (Below wr.heap.size wr) (by kernel_rfl) (by kernel_rfl) hS1 ?_
    repeat (go_big_quiet_step ((go_at_call 41;with_reducible exact HC.out _)))
    refine wpQuiet_nil ?_
    intro _ hw';obtain ⟨⟨Wq,hq2⟩,hw''⟩:=hw';subst hw'';have hbq:=hid (hbr.out.trans (hq2.mono hbr.out.size));clear hq2 hS1 HC hne cx0 cy0 cx1 cy1 cx2 cy2 cx3 cy3
    cases z with
    | true =>
     have hq3:Hid (∀ (j:Nat) (x y:Rw),j < k + 1 → a[j]? = some x → b[j]? = some y → nrmR x = nrmR y):=hid (fun j x' y' hj hx' hy' => by
      by_cases e:j < k
      ·exact hq.out j x' y' e hx' hy'
      ·obtain rfl:j = k:=by omega
       have e1:=hx.out.symm.trans hx';have e2:=hy.out.symm.trans hy'
       cases e1
       cases e2
       exact of_decide_eq_true hz.out)
     go_wp2_with fail
     go_roundw
     case rel => exact ⟨k + 1,by go_num,by omega,hq3,hbq⟩
     case measure => simp [intOf];omega
    | false =>
     go_wp2_with fail;go_ret;exact ⟨by rw [decide_eq_false (map_ne hx.out hy.out (of_decide_eq_false hz.out))];rfl,hbq.out⟩
   ·obtain rfl:k = a.length:=by omega
    have hge:¬ ((a.length:Int) < (a.length:Nat)):=by omega
    go_wp2_with fail;go_ret;exact ⟨by rw [decide_eq_true (map_eq hlen'.out (fun j x y hx hy => hq.out j x y (List.getElem?_eq_some_iff.1 hx).1 hx hy))];rfl,hbr.out⟩
 ·have hne:((a.length:Int) == (b.length:Int)) = false:=by rw [beq_eq_false_iff_ne];omega
  have hne2:¬ (a.length:Int) = (b.length:Int):=by omega
  rw [decide_eq_false (fun e => hlen (by simpa using congrArg List.length e))];clear hlen hA hB;go_enter Tryz.func15,Tryz.ntmps15;go_wp2_with fail;go_ret;exact ⟨rfl,Below.refl _ _⟩
theorem sameM_any (va vb:Value) (a b:List Mv) (w:World) (hA:Mem.Mvs w va a) (hB:Mem.Mvs w vb b) (ha:∀ x ∈ a,x.rk < 2 * Fl.S) (hb:∀ x ∈ b,x.rk < 2 * Fl.S) (hl:a.length ≤ 5000) :
  Calls Tryz.prog 29 #[va,vb] w fun e w' => e = .returned (.bool (decide (a.map nrmM = b.map nrmM))) ∧ Below w.heap.size w w':=by
 obtain ⟨pa,ca,rfl⟩:=hA.len;obtain ⟨pb,cb,rfl⟩:=hB.len;have hB:Sl w (.slice pb b.length cb) b.length (b.flatMap movC):=hB
 by_cases hlen:a.length = b.length
 ·replace hA:=hid hA
  replace hB:=hid hB;replace ha:=hid ha;replace hb:=hid hb;have hlen':=hid hlen;rw [← hlen];rw [← hlen] at hB;clear hlen;go_enter Tryz.func29,Tryz.ntmps29;go_wp2_with fail
  go_loopw [5] (fun i wr => ∃ k:Nat,i = .int .i64 k ∧ k ≤ a.length ∧ Hid (∀ (j:Nat) (x y:Mv),j < k → a[j]? = some x → b[j]? = some y → nrmM x = nrmM y) ∧ Hid (Below w.heap.size w wr)) (fun i _ => a.length - (intOf i).toNat)
  case atStart => exact ⟨0,rfl,by omega,hid (fun j x y h => absurd h (by omega)),hid (Below.refl _ _)⟩
  case round =>
   obtain ⟨k,rfl,hk,hq,hbr⟩:=hrel
   by_cases hlt:k < a.length
   ·have hlt':(k:Int) < (a.length:Nat):=by omega
    have hk0:(0:Int) ≤ (k:Int):=by omega
    obtain ⟨x,hx⟩:=some_at hlt;obtain ⟨y,hy⟩:=some_at (l:=b) (k:=k) (by have:=hlen'.out;omega);obtain ⟨ba,oa,rfl⟩:=hA.out.addr (by omega);obtain ⟨bb,ob,rfl⟩:=hB.out.addr (by omega);have hAr:=hA.out.below hbr.out;have hBr:=hB.out.below hbr.out;have hla:=sl_lt hAr (by omega);have hlb:=sl_lt hBr (by omega);obtain ⟨p0,p1,p2,p3,p4,p5⟩:=mov_at hAr rfl hx;obtain ⟨r0,r1,r2,r3,r4,r5⟩:=mov_at hBr hlen'.out.symm hy;have hS1:=(Below.refl wr.heap.size wr).drew
    haveI hne:Nonempty (Held (Below wr.heap.size wr)):=⟨⟨_,hS1⟩⟩
    have cx0:∀ q:Held (Below wr.heap.size wr),q.w.cell? ⟨ba,oa + k * 6,none⟩ = some (.int .i64 x.t.c):=fun q => (q.h.cell (p:=⟨ba,oa + k * 6,none⟩) hla).trans p0
    have cx1:∀ q:Held (Below wr.heap.size wr),q.w.cell? ⟨ba,oa + k * 6 + 1,none⟩ = some (.int .i64 x.t.r):=fun q => (q.h.cell (p:=⟨ba,oa + k * 6 + 1,none⟩) hla).trans p1
    have cx2:∀ q:Held (Below wr.heap.size wr),q.w.cell? ⟨ba,oa + k * 6 + 2,none⟩ = some (.int .i64 x.pa):=fun q => (q.h.cell (p:=⟨ba,oa + k * 6 + 2,none⟩) hla).trans p2
    have cx3:∀ q:Held (Below wr.heap.size wr),q.w.cell? ⟨ba,oa + k * 6 + 3,none⟩ = some (.int .i64 x.ch):=fun q => (q.h.cell (p:=⟨ba,oa + k * 6 + 3,none⟩) hla).trans p3
    have cx4:∀ q:Held (Below wr.heap.size wr),q.w.cell? ⟨ba,oa + k * 6 + 4,none⟩ = some (.string x.nm):=fun q => (q.h.cell (p:=⟨ba,oa + k * 6 + 4,none⟩) hla).trans p4
    have cx5:∀ q:Held (Below wr.heap.size wr),q.w.cell? ⟨ba,oa + k * 6 + 5,none⟩ = some (.float .f64 x.rk):=fun q => (q.h.cell (p:=⟨ba,oa + k * 6 + 5,none⟩) hla).trans p5
    have cy0:∀ q:Held (Below wr.heap.size wr),q.w.cell? ⟨bb,ob + k * 6,none⟩ = some (.int .i64 y.t.c):=fun q => (q.h.cell (p:=⟨bb,ob + k * 6,none⟩) hlb).trans r0
    have cy1:∀ q:Held (Below wr.heap.size wr),q.w.cell? ⟨bb,ob + k * 6 + 1,none⟩ = some (.int .i64 y.t.r):=fun q => (q.h.cell (p:=⟨bb,ob + k * 6 + 1,none⟩) hlb).trans r1
    have cy2:∀ q:Held (Below wr.heap.size wr),q.w.cell? ⟨bb,ob + k * 6 + 2,none⟩ = some (.int .i64 y.pa):=fun q => (q.h.cell (p:=⟨bb,ob + k * 6 + 2,none⟩) hlb).trans r2
    have cy3:∀ q:Held (Below wr.heap.size wr),q.w.cell? ⟨bb,ob + k * 6 + 3,none⟩ = some (.int .i64 y.ch):=fun q => (q.h.cell (p:=⟨bb,ob + k * 6 + 3,none⟩) hlb).trans r3
    have cy4:∀ q:Held (Below wr.heap.size wr),q.w.cell? ⟨bb,ob + k * 6 + 4,none⟩ = some (.string y.nm):=fun q => (q.h.cell (p:=⟨bb,ob + k * 6 + 4,none⟩) hlb).trans r4
    have cy5:∀ q:Held (Below wr.heap.size wr),q.w.cell? ⟨bb,ob + k * 6 + 5,none⟩ = some (.float .f64 y.rk):=fun q => (q.h.cell (p:=⟨bb,ob + k * 6 + 5,none⟩) hlb).trans r5
    have HC:Hid (∀ q:Held (Below wr.heap.size wr),Calls Tryz.prog 59 #[movV x,movV y] q.w fun e w' => e = .returned (.bool (decide (nrmM x = nrmM y))) ∧ ∃ q':Held (Below wr.heap.size wr),w' = q'.w):=
     hid (fun q => held_calls ((alikeM_any x y q.w (ha.out x (List.mem_of_getElem? hx)) (hb.out y (List.mem_of_getElem? hy))).mono fun e w' (c:_ ∧ Below q.w.heap.size q.w w') => And.intro c.1 (q.h.trans (c.2.mono q.h.size))))
    obtain ⟨z,hz⟩:∃ z,decide (nrmM x = nrmM y) = z:=⟨_,rfl⟩;rw [hz] at HC;unfold movV at HC;replace hz:=hid hz;replace hx:=hid hx;replace hy:=hid hy;clear p0 p1 p2 p3 p4 p5 r0 r1 r2 r3 r4 r5 hAr hBr;go_wp2_with fail;refine wp_region_class (Below wr.heap.size wr) (by kernel_rfl) (by kernel_rfl) hS1 ?_
    repeat (go_big_quiet_step ((go_at_call 59;with_reducible exact HC.out _)))
    refine wpQuiet_nil ?_
    intro _ hw';obtain ⟨⟨Wq,hq2⟩,hw''⟩:=hw';subst hw'';have hbq:=hid (hbr.out.trans (hq2.mono hbr.out.size));clear hq2 hS1 HC hne cx0 cy0 cx1 cy1 cx2 cy2 cx3 cy3 cx4 cy4 cx5 cy5
    cases z with
    | true =>
     have hq3:Hid (∀ (j:Nat) (x y:Mv),j < k + 1 → a[j]? = some x → b[j]? = some y → nrmM x = nrmM y):=hid (fun j x' y' hj hx' hy' => by
      by_cases e:j < k
      ·exact hq.out j x' y' e hx' hy'
      ·obtain rfl:j = k:=by omega
       have e1:=hx.out.symm.trans hx';have e2:=hy.out.symm.trans hy'
       cases e1
       cases e2
       exact of_decide_eq_true hz.out)
     go_wp2_with fail
     go_roundw
     case rel => exact ⟨k + 1,by go_num,by omega,hq3,hbq⟩
     case measure => simp [intOf];omega
    | false =>
     go_wp2_with fail;go_ret;exact ⟨by rw [decide_eq_false (map_ne hx.out hy.out (of_decide_eq_false hz.out))];rfl,hbq.out⟩
   ·obtain rfl:k = a.length:=by omega
    have hge:¬ ((a.length:Int) < (a.length:Nat)):=by omega
    go_wp2_with fail;go_ret;exact ⟨by rw [decide_eq_true (map_eq hlen'.out (fun j x y hx hy => hq.out j x y (List.getElem?_eq_some_iff.1 hx).1 hx hy))];rfl,hbr.out⟩
 ·have hne:((a.length:Int) == (b.length:Int)) = false:=by rw [beq_eq_false_iff_ne];omega
  have hne2:¬ (a.length:Int) = (b.length:Int):=by omega
  rw [decide_eq_false (fun e => hlen (by simpa using congrArg List.length e))];clear hlen hA hB;go_enter Tryz.func29,Tryz.ntmps29;go_wp2_with fail;go_ret;exact ⟨rfl,Below.refl _ _⟩
end Rf
end
section
open Go.RowKit Go.Shelf
attribute [local go_sem] Fl.run_store_float
namespace Rf
open Mem Tp Tr Mo Fo Sn Og St Pl
theorem sameK_any (va vb:Value) (a b:List Mk) (w:World) (hA:Mem.Mks w va a) (hB:Mem.Mks w vb b) (hl:a.length ≤ 5000) :
  Calls Tryz.prog 25 #[va,vb] w fun e w' => e = .returned (.bool (decide (a = b))) ∧ Below w.heap.size w w':=by
 obtain ⟨pa,ca,rfl⟩:=hA.len;obtain ⟨pb,cb,rfl⟩:=hB.len;have hB:Sl w (.slice pb b.length cb) b.length (b.flatMap mkC):=hB
 by_cases hlen:a.length = b.length
 ·replace hA:=hid hA
  replace hB:=hid hB;have hlen':=hid hlen;rw [← hlen];rw [← hlen] at hB;clear hlen;go_enter Tryz.func25,Tryz.ntmps25;go_wp2_with fail
  go_loopw [5] (fun i wr => ∃ k:Nat,i = .int .i64 k ∧ k ≤ a.length ∧ Hid (∀ (j:Nat) (x y:Mk),j < k → a[j]? = some x → b[j]? = some y → id x = id y) ∧ Hid (Below w.heap.size w wr)) (fun i _ => a.length - (intOf i).toNat)
  case atStart => exact ⟨0,rfl,by omega,hid (fun j x y h => absurd h (by omega)),hid (Below.refl _ _)⟩
  case round =>
   obtain ⟨k,rfl,hk,hq,hbr⟩:=hrel
   by_cases hlt:k < a.length
   ·have hlt':(k:Int) < (a.length:Nat):=by omega
    have hk0:(0:Int) ≤ (k:Int):=by omega
    obtain ⟨x,hx⟩:=some_at hlt;obtain ⟨y,hy⟩:=some_at (l:=b) (k:=k) (by have:=hlen'.out;omega);obtain ⟨ba,oa,rfl⟩:=hA.out.addr (by omega);obtain ⟨bb,ob,rfl⟩:=hB.out.addr (by omega);have hAr:=hA.out.below hbr.out;have hBr:=hB.out.below hbr.out;have hla:=sl_lt hAr (by omega);have hlb:=sl_lt hBr (by omega);obtain ⟨p0,p1⟩:=mk_at hAr rfl hx;obtain ⟨r0,r1⟩:=mk_at hBr hlen'.out.symm hy;have hS1:=(Below.refl wr.heap.size wr).drew
    haveI hne:Nonempty (Held (Below wr.heap.size wr)):=⟨⟨_,hS1⟩⟩
    have cx0:∀ q:Held (Below wr.heap.size wr),q.w.cell? ⟨ba,oa + k * 2,none⟩ = some (.int .i64 x.rep):=fun q => (q.h.cell (p:=⟨ba,oa + k * 2,none⟩) hla).trans p0
    have cx1:∀ q:Held (Below wr.heap.size wr),q.w.cell? ⟨ba,oa + k * 2 + 1,none⟩ = some (.int .i64 x.cnt):=fun q => (q.h.cell (p:=⟨ba,oa + k * 2 + 1,none⟩) hla).trans p1
    have cy0:∀ q:Held (Below wr.heap.size wr),q.w.cell? ⟨bb,ob + k * 2,none⟩ = some (.int .i64 y.rep):=fun q => (q.h.cell (p:=⟨bb,ob + k * 2,none⟩) hlb).trans r0
    have cy1:∀ q:Held (Below wr.heap.size wr),q.w.cell? ⟨bb,ob + k * 2 + 1,none⟩ = some (.int .i64 y.cnt):=fun q => (q.h.cell (p:=⟨bb,ob + k * 2 + 1,none⟩) hlb).trans r1
    have hx':=hid hx;have hy':=hid hy;clear p0 p1 r0 r1 hAr hBr hx hy
    by_cases hxy:x = y
    ·have hq3:Hid (∀ (j:Nat) (x y:Mk),j < k + 1 → a[j]? = some x → b[j]? = some y → id x = id y):=hid (fun j x1 y1 hj h1 h2 => by
      by_cases e:j < k
      ·exact hq.out j x1 y1 e h1 h2
      ·obtain rfl:j = k:=by omega
       have e1:=hx'.out.symm.trans h1;have e2:=hy'.out.symm.trans h2
       cases e1
       cases e2
       exact hxy)
     have h1:x.rep = y.rep:=by rw [hxy]
     have h2:x.cnt = y.cnt:=by rw [hxy]
     rw [h1] at cx0;rw [h2] at cx1;clear h1 h2 hxy;go_wp2_with fail;refine wp_region_class (Below wr.heap.size wr) (by kernel_rfl) (by kernel_rfl) hS1 ?_
     repeat (go_big_quiet_step (fail))
     refine wpQuiet_nil ?_
     intro _ hw';obtain ⟨⟨Wq,hq2⟩,hw''⟩:=hw';subst hw'';have hbq:=hid (hbr.out.trans (hq2.mono hbr.out.size));clear hq2 hS1 hne cx0 cx1 cy0 cy1;go_wp2_with fail
     go_roundw
     case rel => exact ⟨k + 1,by go_num,by omega,hq3,hbq⟩
     case measure => simp [intOf];omega
    ·have hF:Hid (decide (a = b) = false):=hid (decide_eq_false (fun e => map_ne (f:=id) hx'.out hy'.out hxy (by rw [e])))
     by_cases h1:x.rep = y.rep
     ·have h2:¬ x.cnt = y.cnt:=fun h2 => hxy (by cases x;cases y;simp only at h1 h2;rw [h1,h2])
      rw [h1] at cx0;go_wp2_with fail;refine wp_region_class (Below wr.heap.size wr) (by kernel_rfl) (by kernel_rfl) hS1 ?_
      repeat (go_big_quiet_step (fail))
      refine wpQuiet_nil ?_
      intro _ hw';obtain ⟨⟨Wq,hq2⟩,hw''⟩:=hw';subst hw'';have hbq:=hid (hbr.out.trans (hq2.mono hbr.out.size));clear hq2 hS1 hne cx0 cx1 cy0 cy1;go_wp2_with fail;go_ret;exact ⟨by rw [hF.out];rfl,hbq.out⟩
     ·go_wp2_with fail
      refine wp_region_class (Below wr.heap.size wr) (by kernel_rfl) (by kernel_rfl) hS1 ?_
      repeat (go_big_quiet_step (fail))
      refine wpQuiet_nil ?_
      intro _ hw';obtain ⟨⟨Wq,hq2⟩,hw''⟩:=hw';subst hw'';have hbq:=hid (hbr.out.trans (hq2.mono hbr.out.size));clear hq2 hS1 hne cx0 cx1 cy0 cy1;go_wp2_with fail;go_ret;exact ⟨by rw [hF.out];rfl,hbq.out⟩
   ·obtain rfl:k = a.length:=by omega
    have hge:¬ ((a.length:Int) < (a.length:Nat)):=by omega
    go_wp2_with fail;go_ret;exact ⟨by rw [decide_eq_true (show a = b by simpa using map_eq (f:=id) hlen'.out (fun j x y hx hy => hq.out j x y (List.getElem?_eq_some_iff.1 hx).1 hx hy))];rfl,hbr.out⟩
 ·have hne:((a.length:Int) == (b.length:Int)) = false:=by rw [beq_eq_false_iff_ne];omega
  have hne2:¬ (a.length:Int) = (b.length:Int):=by omega
  rw [decide_eq_false (fun e => hlen (by rw [e]))];clear hlen hA hB;go_enter Tryz.func25,Tryz.ntmps25;go_wp2_with fail;go_ret;exact ⟨rfl,Below.refl _ _⟩
def short_anyD (l:List Dd) (most:Nat):Bool:=decide (l.length ≤ most ∧ ∀ x ∈ l,x.nm.size ≤ 100)
theorem short_any (v:Value) (l:List Dd) (most:Nat) (w:World) (hA:Mem.Dds w v l) (hm:most ≤ 1000) (hl:l.length ≤ 9223372036854775807) :
  Calls Tryz.prog 8 #[v,.int .i64 (most:Int)] w fun e w' => e = .returned (.bool (short_anyD l most)) ∧ Below w.heap.size w w':=by
 obtain ⟨pa,ca,rfl⟩:=hA.len
 by_cases hlm:(most:Int) < (l.length:Nat)
 ·rw [show short_anyD l most = false from decide_eq_false (fun e => by omega)]
  clear hA;go_enter Tryz.func8,Tryz.ntmps8;go_wp2_with fail;go_ret;exact ⟨rfl,Below.refl _ _⟩
 ·have hA:=hid hA
  have hle:=hid (show l.length ≤ most by omega);go_enter Tryz.func8,Tryz.ntmps8;go_wp2_with fail
  go_loopw [5] (fun i wr => ∃ k:Nat,i = .int .i64 k ∧ k ≤ l.length ∧ Hid (∀ (j:Nat) (x:Dd),j < k → l[j]? = some x → x.nm.size ≤ 100) ∧ Hid (Below w.heap.size w wr)) (fun i _ => l.length - (intOf i).toNat)
  case atStart => exact ⟨0,rfl,by omega,hid (fun j x h => absurd h (by omega)),hid (Below.refl _ _)⟩
  case round =>
   obtain ⟨k,rfl,hk,hq,hbr⟩:=hrel
   by_cases hlt:k < l.length
   ·have hlt':(k:Int) < (l.length:Nat):=by omega
    have hk0:(0:Int) ≤ (k:Int):=by omega
    obtain ⟨x,hx⟩:=some_at hlt;obtain ⟨ba,oa,rfl⟩:=hA.out.addr (by omega);have hAr:=hA.out.below hbr.out;have hla:=sl_lt hAr (by omega);obtain ⟨p0,p1,p2,p3,p4,p5,p6,p7⟩:=dd_at hAr rfl hx;have hx':=hid hx;clear hx hAr p0 p1 p2 p3 p4 p5 p7
    by_cases hn:(100:Int) < (x.nm.size:Nat)
    ·have hF:Hid (short_anyD l most = false):=hid (decide_eq_false (fun e => by have:=e.2 x (List.mem_of_getElem? hx'.out);omega))
     go_wp2_with fail;go_ret;exact ⟨by rw [hF.out];rfl,hbr.out⟩
    ·have hq3:Hid (∀ (j:Nat) (x:Dd),j < k + 1 → l[j]? = some x → x.nm.size ≤ 100):=hid (fun j x1 hj h1 => by
      by_cases e:j < k
      ·exact hq.out j x1 e h1
      ·obtain rfl:j = k:=by omega
       have e1:=hx'.out.symm.trans h1
       cases e1
       omega)
     go_wp2_with fail
     go_roundw
     case rel => exact ⟨k + 1,by go_num,by omega,hq3,hbr⟩
     case measure => simp [intOf];omega
   ·obtain rfl:k = l.length:=by omega
    have hge:¬ ((l.length:Int) < (l.length:Nat)):=by omega
    go_wp2_with fail;go_ret;exact ⟨by rw [show short_anyD l most = true from decide_eq_true ⟨hle.out,fun x hx => (by obtain ⟨j,hj⟩:=List.getElem?_of_mem hx;exact hq.out j x (List.getElem?_eq_some_iff.1 hj).1 hj)⟩];rfl,hbr.out⟩
def few_anyD (l:List Mv) (most:Nat):Bool:=decide (l.length ≤ most ∧ ∀ x ∈ l,x.nm.size ≤ 100)
theorem few_any (v:Value) (l:List Mv) (most:Nat) (w:World) (hA:Mem.Mvs w v l) (hm:most ≤ 1000) (hl:l.length ≤ 9223372036854775807) :
  Calls Tryz.prog 9 #[v,.int .i64 (most:Int)] w fun e w' => e = .returned (.bool (few_anyD l most)) ∧ Below w.heap.size w w':=by
 obtain ⟨pa,ca,rfl⟩:=hA.len
 by_cases hlm:(most:Int) < (l.length:Nat)
 ·rw [show few_anyD l most = false from decide_eq_false (fun e => by omega)]
  clear hA;go_enter Tryz.func9,Tryz.ntmps9;go_wp2_with fail;go_ret;exact ⟨rfl,Below.refl _ _⟩
 ·have hA:=hid hA
  have hle:=hid (show l.length ≤ most by omega);go_enter Tryz.func9,Tryz.ntmps9;go_wp2_with fail
  go_loopw [5] (fun i wr => ∃ k:Nat,i = .int .i64 k ∧ k ≤ l.length ∧ Hid (∀ (j:Nat) (x:Mv),j < k → l[j]? = some x → x.nm.size ≤ 100) ∧ Hid (Below w.heap.size w wr)) (fun i _ => l.length - (intOf i).toNat)
  case atStart => exact ⟨0,rfl,by omega,hid (fun j x h => absurd h (by omega)),hid (Below.refl _ _)⟩
  case round =>
   obtain ⟨k,rfl,hk,hq,hbr⟩:=hrel
   by_cases hlt:k < l.length
   ·have hlt':(k:Int) < (l.length:Nat):=by omega
    have hk0:(0:Int) ≤ (k:Int):=by omega
    obtain ⟨x,hx⟩:=some_at hlt;obtain ⟨ba,oa,rfl⟩:=hA.out.addr (by omega);have hAr:=hA.out.below hbr.out;have hla:=sl_lt hAr (by omega);obtain ⟨p0,p1,p2,p3,p4,p5⟩:=mov_at hAr rfl hx;have hx':=hid hx;clear hx hAr p0 p1 p2 p3 p5
    by_cases hn:(100:Int) < (x.nm.size:Nat)
    ·have hF:Hid (few_anyD l most = false):=hid (decide_eq_false (fun e => by have:=e.2 x (List.mem_of_getElem? hx'.out);omega))
     go_wp2_with fail;go_ret;exact ⟨by rw [hF.out];rfl,hbr.out⟩
    ·have hq3:Hid (∀ (j:Nat) (x:Mv),j < k + 1 → l[j]? = some x → x.nm.size ≤ 100):=hid (fun j x1 hj h1 => by
      by_cases e:j < k
      ·exact hq.out j x1 e h1
      ·obtain rfl:j = k:=by omega
       have e1:=hx'.out.symm.trans h1
       cases e1
       omega)
     go_wp2_with fail
     go_roundw
     case rel => exact ⟨k + 1,by go_num,by omega,hq3,hbr⟩
     case measure => simp [intOf];omega
   ·obtain rfl:k = l.length:=by omega
    have hge:¬ ((l.length:Int) < (l.length:Nat)):=by omega
    go_wp2_with fail;go_ret;exact ⟨by rw [show few_anyD l most = true from decide_eq_true ⟨hle.out,fun x hx => (by obtain ⟨j,hj⟩:=List.getElem?_of_mem hx;exact hq.out j x (List.getElem?_eq_some_iff.1 hj).1 hj)⟩];rfl,hbr.out⟩
end Rf
end
section
open Go.RowKit Go.Shelf
attribute [local go_sem] Fl.run_store_float
namespace Rf
open Mem Tp Tr Mo Fo Sn Og St Pl
def sameP (r q:Rp):Bool:=decide (r.base.map nrmR = q.base.map nrmR) && (decide (r.fl = q.fl) && (decide (r.log.map nrmM = q.log.map nrmM) && decide (r.mks = q.mks)))
theorem sameP_eq {r q:Rp}:sameP r q = true ↔ r.base.map nrmR = q.base.map nrmR ∧ r.fl = q.fl ∧ r.log.map nrmM = q.log.map nrmM ∧ r.mks = q.mks:=by
 unfold sameP;simp only [Bool.and_eq_true,decide_eq_true_eq]
theorem sameP_any (x y:X3) (w:World) (hX:RepX w x) (hY:RepX w y) (hx:WfR x.2) (hy:WfR y.2) (kx:RkR x.2) (ky:RkR y.2) :
  Calls Tryz.prog 14 #[rpV x,rpV y] w fun e w' => e = .returned (.bool (sameP x.2 y.2)) ∧ Below w.heap.size w w':=by
 have l1:=hx.len;have l2:=hx.mlen;obtain ⟨W0,hW0⟩:∃ W0,lay w [rpO x,rpO y] = W0:=⟨_,rfl⟩
 have hb0:Below w.heap.size w W0:=by rw [← hW0];exact lay_below _ _
 have hs0:W0.heap.size = w.heap.size + 2:=by rw [← hW0];exact lay_size _ _
 have g0:W0.heap[w.heap.size]? = some (rpO x):=by rw [← hW0];exact lay_at _ w 0 _ rfl
 have g1:W0.heap[w.heap.size + 1]? = some (rpO y):=by rw [← hW0];exact lay_at _ w 1 _ rfl
 have HX:=hid (fun W (h:Below W0.heap.size W0 W) => RepW.below (RepW.below hX hb0) h);have HY:=hid (fun W (h:Below W0.heap.size W0 W) => RepW.below (RepW.below hY hb0) h);have HB:=hid (fun W (h:Below W0.heap.size W0 W) => sameR_any _ _ _ _ W (HX.out W h).b (HY.out W h).b kx.1 ky.1 (by omega));have HM:=hid (fun W (h:Below W0.heap.size W0 W) => sameM_any _ _ _ _ W (HX.out W h).l (HY.out W h).l kx.2 ky.2 (by omega));have HK:=hid (fun W (h:Below W0.heap.size W0 W) => sameK_any _ _ _ _ W (HX.out W h).m (HY.out W h).m (by omega));unfold sameP;obtain ⟨ab,kb,eb⟩:=hX.b.len
 obtain ⟨al,kl,el⟩:=hX.l.len;obtain ⟨am,km,em⟩:=hX.m.len;obtain ⟨⟨vb,vl,vm⟩,r⟩:=x;simp only at eb el em;subst eb el em;obtain ⟨ab',kb',eb⟩:=hY.b.len;obtain ⟨al',kl',el⟩:=hY.l.len;obtain ⟨am',km',em⟩:=hY.m.len;obtain ⟨⟨vb,vl,vm⟩,q⟩:=y;simp only at eb el em;subst eb el em;simp only [lay,List.foldl_cons,List.foldl_nil,rpO,repO] at hW0 g0 g1;simp only at HB HM HK l1 l2 ⊢;generalize decide (r.base.map nrmR = q.base.map nrmR) = z1 at *;generalize decide (r.log.map nrmM = q.log.map nrmM) = z3 at *;generalize decide (r.mks = q.mks) = z4 at *
 obtain ⟨z2,hz2⟩:∃ z,decide (r.fl = q.fl) = z:=⟨_,rfl⟩;rw [hz2];have K:∀ W,Below W0.heap.size W0 W → W.cell? ⟨w.heap.size,1,none⟩ = some (.int .i64 r.fl.c) ∧ W.cell? ⟨w.heap.size,2,none⟩ = some (.int .i64 r.fl.r) ∧ W.cell? ⟨w.heap.size,3,none⟩ = some (.slice al r.log.length kl) ∧ W.cell? ⟨w.heap.size,4,none⟩ = some (.slice am r.mks.length km)
   ∧ W.cell? ⟨w.heap.size + 1,1,none⟩ = some (.int .i64 q.fl.c) ∧ W.cell? ⟨w.heap.size + 1,2,none⟩ = some (.int .i64 q.fl.r) ∧ W.cell? ⟨w.heap.size + 1,3,none⟩ = some (.slice al' q.log.length kl') ∧ W.cell? ⟨w.heap.size + 1,4,none⟩ = some (.slice am' q.mks.length km'):=fun W h =>
  ⟨cell_at (below_at h g0 (by omega)) 1,cell_at (below_at h g0 (by omega)) 2,cell_at (below_at h g0 (by omega)) 3,cell_at (below_at h g0 (by omega)) 4,cell_at (below_at h g1 (by omega)) 1,cell_at (below_at h g1 (by omega)) 2,cell_at (below_at h g1 (by omega)) 3,cell_at (below_at h g1 (by omega)) 4⟩
 have a0:W0.cell? ⟨w.heap.size,0,none⟩ = some (.slice ab r.base.length kb):=cell_at g0 0;have b0:W0.cell? ⟨w.heap.size + 1,0,none⟩ = some (.slice ab' q.base.length kb'):=cell_at g1 0;rw [← hW0] at a0 b0;replace K:=hid K;replace hb0:=hid hb0;replace hW0:=hid hW0;replace g0:=hid g0;replace g1:=hid g1;replace hz2:=hid hz2;clear hX hY hx hy kx ky HX HY;unfold rpV repV;go_enter Tryz.func14,Tryz.ntmps14;go_wp2_with fail;rw [hW0.out];refine (HB.out _ (Below.refl _ _)).mono ?_
 rintro e w1 ⟨rfl,b1⟩;obtain ⟨k0,k1,k2,k3,k4,k5,k6,k7⟩:=K.out w1 b1;have hb1:=hid (hb0.out.trans (b1.mono hb0.out.size));replace b1:=hid b1;clear a0 b0
 cases z1 with
 | false =>
  go_wp2_with fail;go_ret;exact ⟨rfl,hb1.out⟩
 | true =>
  rcases (show (z2 = true ∧ r.fl.c = q.fl.c ∧ r.fl.r = q.fl.r) ∨ (z2 = false ∧ r.fl.c = q.fl.c ∧ ¬ r.fl.r = q.fl.r) ∨ (z2 = false ∧ ¬ r.fl.c = q.fl.c) by
   have h:=hz2.out;rw [show decide (r.fl = q.fl) = decide (r.fl.c = q.fl.c ∧ r.fl.r = q.fl.r) from decide_eq_decide.2 ⟨fun e => ⟨by rw [e],by rw [e]⟩,fun e => by cases hr:r.fl;cases hq:q.fl;rw [hr,hq] at e;simp only at e;rw [e.1,e.2]⟩] at h
   by_cases h1:r.fl.c = q.fl.c <;> by_cases h2:r.fl.r = q.fl.r <;> simp [h1,h2] at h ⊢ <;> exact h) with ⟨rfl,e1,e2⟩ | ⟨rfl,e1,e2⟩ | ⟨rfl,e1⟩
  ·rw [e1] at k0
   rw [e2] at k1;clear e1 e2;go_wp2_with fail;refine (HM.out _ b1.out).mono ?_
   rintro e w2 ⟨rfl,b2⟩;have b2':=b1.out.trans (b2.mono b1.out.size);obtain ⟨k0,k1,k2,k3,k4,k5,k6,k7⟩:=K.out w2 b2';have hb2:=hid (hb1.out.trans (b2.mono hb1.out.size));replace b2':=hid b2';clear b2
   cases z3 with
   | false =>
    go_wp2_with fail;go_ret;exact ⟨rfl,hb2.out⟩
   | true =>
    go_wp2_with fail;refine (HK.out _ b2'.out).mono ?_
    rintro e w3 ⟨rfl,b3⟩;have hb3:=hid (hb2.out.trans (b3.mono hb2.out.size));clear b3;go_wp2_with fail;go_ret;exact ⟨rfl,hb3.out⟩
  ·rw [e1] at k0
   clear e1;go_wp2_with fail;go_ret;exact ⟨rfl,hb1.out⟩
  ·go_wp2_with fail
   go_ret;exact ⟨rfl,hb1.out⟩
end Rf
end
section
open Go.RowKit Go.Shelf
attribute [local go_sem] Fl.run_store_float
namespace Tw
open Mem Tp Tr Mo Fo Sn Og St Pl Iv Rf
theorem world_any (n:Nat) (v:Value) (l:List Dd) (w:World) (hn:1 ≤ n) (h8:n ≤ 8) (hS:Mem.Dds w v l) (hl:OkD l) :
  Calls Tryz.prog 11 #[.int .i64 (n:Int),v] w fun e w' => ∃ (p b:Nat) (vp:Value) (xs:List X3) (pool:List Mv) (cs:List Int),e = .returned (.pointer (some ⟨p,0,none⟩)) ∧ RunS n l (xs.map (·.2)) pool cs ∧ PW w' w.heap.size p b vp xs pool ∧ Below w.heap.size w w':=by
 have HR:=hid (run_any n v l w hn h8 hS hl);obtain ⟨a,cap,rfl⟩:=hS.len;clear hS hl;go_enter Tryz.func11,Tryz.ntmps11;go_wp2_with fail;refine HR.out.mono ?_
 rintro e w1 ⟨p,b,vp,xs,pool,cs,v',rfl,h1,h2,h3,h4⟩;obtain ⟨a1,c1,e1⟩:=(own_sl h3).len;subst e1;replace h1:=hid h1;replace h2:=hid h2;replace h4:=hid h4;clear h3;go_wp2_with fail;go_ret;exact ⟨p,b,vp,xs,pool,cs,rfl,h1.out,h2.out,h4.out⟩
theorem sl_block {W:World} {b n:Nat} {cs:List Value} {t:TypeId} (h:W.heap[b]? = some (.cells cs.toArray t (0,0))):Sl W (.slice (some ⟨b,0,none⟩) n n) n cs:=
 ⟨some ⟨b,0,none⟩,n,rfl,Nat.le_refl _,(fun e => by cases e),fun _ => ⟨b,0,rfl,lt_of_block h,fun j u hu => by rw [Nat.zero_add,cell_at h];simpa using hu⟩⟩
theorem okD4:OkD [d1,d2,d3,d4]:=by
 refine ⟨by decide,fun d hd => ?_⟩
 simp only [List.mem_cons,List.not_mem_nil,or_false] at hd
 rcases hd with rfl | rfl | rfl | rfl <;> exact ⟨by decide,by decide⟩
theorem works_any (w:World) :
  Calls Tryz.prog 10 #[] w fun e w' => e = .returned (.bool true) ∧ Below w.heap.size w w':=by
 have g0:=alloc_new w (.cells #[.int .i64 1,.int .i64 1,.int .i64 0,.int .i64 0,.int .i64 0,.int .i64 1,.string ⟨#[97]⟩,.float .f64 0,.int .i64 2,.int .i64 2,.int .i64 0,.int .i64 0,.int .i64 0,.int .i64 0,.string ⟨#[]⟩,.float .f64 0,.int .i64 4,.int .i64 2,.int .i64 0,.int .i64 0,.int .i64 0,.int .i64 0,.string ⟨#[]⟩,.float .f64 0,.int .i64 1,.int .i64 2,.int .i64 0,.int .i64 0,.int .i64 1,.int .i64 2,.string ⟨#[]⟩,.float .f64 0] 63)
 have b0:=(Below.refl w.heap.size w).alloc (Nat.le_refl _) (.cells #[.int .i64 1,.int .i64 1,.int .i64 0,.int .i64 0,.int .i64 0,.int .i64 1,.string ⟨#[97]⟩,.float .f64 0,.int .i64 2,.int .i64 2,.int .i64 0,.int .i64 0,.int .i64 0,.int .i64 0,.string ⟨#[]⟩,.float .f64 0,.int .i64 4,.int .i64 2,.int .i64 0,.int .i64 0,.int .i64 0,.int .i64 0,.string ⟨#[]⟩,.float .f64 0,.int .i64 1,.int .i64 2,.int .i64 0,.int .i64 0,.int .i64 1,.int .i64 2,.string ⟨#[]⟩,.float .f64 0] 63)
 have hS:Mem.Dds (w.alloc (.cells #[.int .i64 1,.int .i64 1,.int .i64 0,.int .i64 0,.int .i64 0,.int .i64 1,.string ⟨#[97]⟩,.float .f64 0,.int .i64 2,.int .i64 2,.int .i64 0,.int .i64 0,.int .i64 0,.int .i64 0,.string ⟨#[]⟩,.float .f64 0,.int .i64 4,.int .i64 2,.int .i64 0,.int .i64 0,.int .i64 0,.int .i64 0,.string ⟨#[]⟩,.float .f64 0,.int .i64 1,.int .i64 2,.int .i64 0,.int .i64 0,.int .i64 1,.int .i64 2,.string ⟨#[]⟩,.float .f64 0] 63)) (.slice (some ⟨w.heap.size,0,none⟩) 4 4) [d1,d2,d3,d4]:=sl_block g0
 have HR:=hid (run_any 2 _ _ _ (by omega) (by omega) hS okD4);replace b0:=hid b0;clear g0 hS;go_enter Tryz.func10,Tryz.ntmps10;go_wp2_with fail;refine HR.out.mono ?_
 rintro e w1 ⟨p,b,vp,xs,pool,cs,v',rfl,h1,h2,h3,h4⟩;obtain ⟨r,m,hr,hcl,hc3,ht⟩:=works_plain h1
 obtain ⟨x,hx,hxr⟩:∃ x,xs[1]? = some x ∧ x.2 = r:=by
  rw [List.getElem?_map] at hr;exact Option.map_eq_some_iff.1 hr
 have hinv:=h1.inv (fun d hd => (okD4.2 d hd).2);have hO:=hinv.okR (by decide) r (List.mem_of_getElem? hr);subst hxr;have HT:=hid (tree_any w1 h2 1 x hx hO.w);rw [ht] at HT;obtain ⟨a1,c1,e1⟩:=(own_sl h3).len;rw [hcl] at e1;subst e1;have h3':=own_sl h3;rw [hcl] at h3';obtain ⟨be,oe,ee⟩:=h3'.addr (by decide);subst ee;have hbe:=sl_lt h3' (by decide);have hce:=(h3'.at (by decide)).2 3 (.int .i64 0) (by rw [List.getElem?_map,hc3];rfl);have hb1:=hid (b0.out.trans (h4.mono b0.out.size));replace hbe:=hid hbe;replace hce:=hid hce;clear h1 h2 h3 h3' h4 hr hc3 ht hinv hO
 go_wp2_with fail;refine HT.out.mono ?_
 rintro e w2 ⟨⟨y,rfl,hy⟩,b2⟩;have hb2:=hb1.out.trans (b2.mono hb1.out.size);have HP:=hid (Tr.Path_ok y [⟨1,0,m.nm,m.rk⟩,⟨2,1,ByteArray.empty,0⟩] 2 w2 hy (by simp) (by simp) (fun r hr => by simp only [List.mem_cons,List.not_mem_nil,or_false] at hr;rcases hr with rfl | rfl <;> exact ⟨by unfold InR;simp,by unfold InR;simp⟩) (by unfold InR;decide) (by simp [chain,up]) (by simp [chain,up]) (by simp [up]))
 rw [show (2:Int) :: chain [⟨1,0,m.nm,m.rk⟩,⟨2,1,ByteArray.empty,0⟩] [(⟨1,0,m.nm,m.rk⟩:Rw),⟨2,1,ByteArray.empty,0⟩].length 2 = [2,1,0] from by simp [chain,up]] at HP;obtain ⟨a3,c3,e3⟩:=hy.len;subst e3;replace hb2:=hid hb2;replace b2:=hid b2;clear hy;go_wp2_with fail;refine HP.out.mono ?_
 rintro e w3 ⟨⟨z,rfl,hz⟩,b3⟩;obtain ⟨a4,c4,e4⟩:=hz.len;subst e4;have hb3:=hid (hb2.out.trans (b3.mono hb2.out.size));have hbe3:=hid (Nat.lt_of_lt_of_le hbe.out (Nat.le_trans b2.out.size b3.size));have hce3:=(b3.cell (p:=⟨be,oe + 3,none⟩) (Nat.lt_of_lt_of_le hbe.out b2.out.size)).trans ((b2.out.cell (p:=⟨be,oe + 3,none⟩) hbe.out).trans hce.out);have g4:=alloc_new w3 (.cells #[.int .i64 2,.int .i64 1,.int .i64 0] 3);have b4:=hb3.out.alloc hb3.out.size (.cells #[.int .i64 2,.int .i64 1,.int .i64 0] 3)
 have hin:∀ n ∈ [(2:Int),1,0],IntKind.i64.min ≤ n ∧ n ≤ IntKind.i64.max:=by decide
 have hI:Is (w3.alloc (.cells #[.int .i64 2,.int .i64 1,.int .i64 0] 3)) (.slice (some ⟨w3.heap.size,0,none⟩) 3 3) [2,1,0]:=sl_block g4;have HS:=hid (Dl.same_any _ _ _ _ _ (is_ints (Sl.below hz ((Below.refl w3.heap.size w3).alloc (Nat.le_refl _) (.cells #[.int .i64 2,.int .i64 1,.int .i64 0] 3))) hin) (is_ints hI hin) (by decide));replace hz:=hid hz;replace b4:=hid b4;clear g4 hI hin;go_wp2_with fail;refine HS.out.mono ?_
 rintro e w5 ⟨rfl,b5⟩;have hb5:=hid (b4.out.trans (b5.mono b4.out.size));clear hce3;go_wp2_with fail;go_ret;exact ⟨rfl,hb5.out⟩
end Tw
end
section
open Go.RowKit Go.Shelf Go.ChangeShapes Go.WideShapes Go.ChangeAt
namespace Tw
open Mem Tp Tr Mo Fo Sn Og St Pl Iv Rf
theorem add_none {a:Addr} {W:World} {u:Value} (h:W.cell? (a.add 0) = some u):∃ b off,a = ⟨b,off,none⟩:=by
 obtain ⟨b,off,spot⟩:=a
 have hspot:spot = none:=by simpa [Addr.add] using World.cell?_spot h
 subst hspot;exact ⟨b,off,rfl⟩
theorem add_at (b off i:Nat):(⟨b,off,none⟩:Addr).add i = ⟨b,off + i,none⟩:=by unfold Addr.add;split <;> simp_all
theorem flat_back {α:Type} {f:α → List Value} {k:Nat} (hf:∀ x,(f x).length = k) (h0:0 < k) (l:List α) {j:Nat} {u:Value} (h:(l.flatMap f)[j]? = some u):∃ x,l[j / k]? = some x ∧ (f x)[j % k]? = some u ∧ j / k < l.length:=by
 have hj:j < l.length * k:=by rw [← flat_length hf l];exact (List.getElem?_eq_some_iff.1 h).1
 have hd:j / k < l.length:=Nat.div_lt_of_lt_mul (by rw [Nat.mul_comm];exact hj);obtain ⟨x,hx⟩:=some_at hd;refine ⟨x,hx,?_,hd⟩
 have:=flat_at hf l (j / k) x hx (j % k) (Nat.mod_lt _ h0);rw [Nat.mul_comm,Nat.div_add_mod] at this;rw [← this,h]
instance : Inhabited Dd:=⟨⟨0,0,0,0,0,0,ByteArray.empty,0⟩⟩
instance : Inhabited Mv:=⟨⟨⟨0,0⟩,0,0,ByteArray.empty,0⟩⟩
theorem sl_of {α:Type} [Inhabited α] {f:α → List Value} {P:α → Prop} {k:Nat} {H:Type} {enc:TypeId × Value → H} {W:World} {t e:TypeId} {v:Value} {d:DataW H} {p:List MemPlace} (ht:Tryz.prog.underlying t = some (.slice e)) (ce:Tryz.prog.cellsOf e = k) (hf:∀ x,(f x).length = k) (h0:0 < k)
  (el:∀ (n:Nat) (cs:List Value) (x:DataW H × List MemPlace),cs.length = k → DataW.trod enc Tryz.prog W 0 (fun _ => true) true n e cs = some x → ∃ z:α,cs = f z ∧ P z)
  (h:DataW.Trod enc Tryz.prog W 0 (fun _ => true) true t v d p) (hv:∃ a len cap,v = .slice a len cap):∃ l:List α,Sl W v l.length (l.flatMap f) ∧ (∀ z ∈ l,P z) ∧ l.length ≤ maxLen:=by
 obtain ⟨a,len,cap,rfl⟩:=hv;obtain ⟨fuel,hfu⟩:=h
 rcases Go.Deep.open_slice ht hfu with ⟨hcs,-⟩ | ⟨a',len',cap',m,n,D,Pl,hcs,hb,hl,hm,hmm,hx,hcell⟩
 ·simp [Value.cells] at hcs
  obtain ⟨rfl,rfl,rfl⟩:=hcs;exact ⟨[],sl_nil W,fun z hz => by simp at hz,Nat.zero_le _⟩
 ·simp [Value.cells] at hcs
  obtain ⟨rfl,rfl,rfl⟩:=hcs;simp only [if_true] at hmm
  have hV:∀ i,i < len → ∃ z:α,(∀ j,j < k → W.cell? (a'.add (i * k + j)) = (f z)[j]?) ∧ P z:=fun i hi => by
   obtain ⟨cs',h1,h2⟩:=hcell i (by omega);rw [ce] at h1;obtain ⟨_,hlen,hc⟩:=World.cells?_some h1;obtain ⟨z,rfl,hz⟩:=el _ _ _ hlen h2;refine ⟨z,fun j hj => ?_,hz⟩
   have:=hc j hj;rw [Go.Deep.add_add] at this;exact this
  obtain ⟨Z,hZ⟩:=Go.Deep.choose_lt (α:=α) hV
  have hlen:((List.range len).map Z).length = len:=by simp
  have hat:∀ j,j < len → ((List.range len).map Z)[j]? = some (Z j):=fun j hj => by simp [hj]
  refine ⟨(List.range len).map Z,⟨some a',cap,by rw [hlen],by rw [hlen];exact hl,(fun e => by cases e),fun hp => ?_⟩,fun c hc => ?_,by rw [hlen];omega⟩
  ·rw [hlen] at hp
   have h1:=(hZ 0 hp).1 0 h0;obtain ⟨u,hu⟩:∃ u,(f (Z 0))[0]? = some u:=some_at (by rw [hf];exact h0);rw [hu,show 0 * k + 0 = 0 by omega] at h1;obtain ⟨b',off,rfl⟩:=add_none h1;refine ⟨b',off,rfl,World.block_lt_of_cell? _ _ (by simpa [Addr.add] using h1),fun j u hju => ?_⟩
   obtain ⟨x,hx1,hx2,hx3⟩:=flat_back hf h0 _ hju;rw [hlen] at hx3;rw [hat _ hx3] at hx1
   cases hx1
   have:=(hZ _ hx3).1 (j % k) (Nat.mod_lt _ h0);rw [Nat.mul_comm,Nat.div_add_mod,add_at,hx2] at this;exact this
  ·simp only [List.mem_map,List.mem_range] at hc
   obtain ⟨i,hi,rfl⟩:=hc;exact (hZ i hi).2
theorem dds_of {H:Type} {enc:TypeId × Value → H} {W:World} {b:Nat} {v:Value} {d:DataW H} {p:List MemPlace} (o:Value.okWide Tryz.prog W .any b 22 v) (h:DataW.Trod enc Tryz.prog W 0 (fun _ => true) true 22 v d p) :
  ∃ l:List Dd,Mem.Dds W v l ∧ (∀ z ∈ l,z.rk < 2 * Fl.S) ∧ l.length ≤ maxLen:=by
 refine sl_of (f:=ddC) Tryz.underlying22 (by kernel_rfl) ddC_len (by omega) (fun n cs x hl hx => ?_) h (Opened.ok_slice Tryz.underlying22 o)
 obtain ⟨xs,k,hk,hxy,_,hxl,hf⟩:=DataW.trod_struct Tryz.underlying63 hx
 match cs,hl with
 | [v0,v1,v2,v3,v4,v5,v6,v7],_ =>
  have g0:DataW.trod enc Tryz.prog W 0 (fun _ => true) true k 3 (([v0,v1,v2,v3,v4,v5,v6,v7].drop 0).take (Tryz.prog.cellsOf 3)) = xs[0]?:=hf 0 _ rfl;rw [show Tryz.prog.cellsOf 3 = 1 by kernel_rfl] at g0;obtain ⟨yg0,hyg0⟩:=some_at (l:=xs) (k:=0) (by rw [hxl];decide);rw [hyg0] at g0;have g1:DataW.trod enc Tryz.prog W 0 (fun _ => true) true k 3 (([v0,v1,v2,v3,v4,v5,v6,v7].drop 1).take (Tryz.prog.cellsOf 3)) = xs[1]?:=hf 1 _ rfl;rw [show Tryz.prog.cellsOf 3 = 1 by kernel_rfl] at g1;obtain ⟨yg1,hyg1⟩:=some_at (l:=xs) (k:=1) (by rw [hxl];decide)
  rw [hyg1] at g1;have g2:DataW.trod enc Tryz.prog W 0 (fun _ => true) true k 3 (([v0,v1,v2,v3,v4,v5,v6,v7].drop 2).take (Tryz.prog.cellsOf 3)) = xs[2]?:=hf 2 _ rfl;rw [show Tryz.prog.cellsOf 3 = 1 by kernel_rfl] at g2;obtain ⟨yg2,hyg2⟩:=some_at (l:=xs) (k:=2) (by rw [hxl];decide);rw [hyg2] at g2;have g3:DataW.trod enc Tryz.prog W 0 (fun _ => true) true k 3 (([v0,v1,v2,v3,v4,v5,v6,v7].drop 3).take (Tryz.prog.cellsOf 3)) = xs[3]?:=hf 3 _ rfl;rw [show Tryz.prog.cellsOf 3 = 1 by kernel_rfl] at g3
  obtain ⟨yg3,hyg3⟩:=some_at (l:=xs) (k:=3) (by rw [hxl];decide);rw [hyg3] at g3;have g4:DataW.trod enc Tryz.prog W 0 (fun _ => true) true k 3 (([v0,v1,v2,v3,v4,v5,v6,v7].drop 4).take (Tryz.prog.cellsOf 3)) = xs[4]?:=hf 4 _ rfl;rw [show Tryz.prog.cellsOf 3 = 1 by kernel_rfl] at g4;obtain ⟨yg4,hyg4⟩:=some_at (l:=xs) (k:=4) (by rw [hxl];decide);rw [hyg4] at g4;have g5:DataW.trod enc Tryz.prog W 0 (fun _ => true) true k 3 (([v0,v1,v2,v3,v4,v5,v6,v7].drop 5).take (Tryz.prog.cellsOf 3)) = xs[5]?:=hf 5 _ rfl
  rw [show Tryz.prog.cellsOf 3 = 1 by kernel_rfl] at g5;obtain ⟨yg5,hyg5⟩:=some_at (l:=xs) (k:=5) (by rw [hxl];decide);rw [hyg5] at g5;have g6:DataW.trod enc Tryz.prog W 0 (fun _ => true) true k 9 (([v0,v1,v2,v3,v4,v5,v6,v7].drop 6).take (Tryz.prog.cellsOf 9)) = xs[6]?:=hf 6 _ rfl;rw [show Tryz.prog.cellsOf 9 = 1 by kernel_rfl] at g6;obtain ⟨yg6,hyg6⟩:=some_at (l:=xs) (k:=6) (by rw [hxl];decide);rw [hyg6] at g6
  have g7:DataW.trod enc Tryz.prog W 0 (fun _ => true) true k 47 (([v0,v1,v2,v3,v4,v5,v6,v7].drop 7).take (Tryz.prog.cellsOf 47)) = xs[7]?:=hf 7 _ rfl;rw [show Tryz.prog.cellsOf 47 = 1 by kernel_rfl] at g7;obtain ⟨yg7,hyg7⟩:=some_at (l:=xs) (k:=7) (by rw [hxl];decide);rw [hyg7] at g7;obtain ⟨n0,eg0,-,bg0⟩:=DataW.trod_int (cs:=[v0]) Tryz.underlying3 g0;simp only [List.cons.injEq,and_true] at eg0;obtain ⟨n1,eg1,-,bg1⟩:=DataW.trod_int (cs:=[v1]) Tryz.underlying3 g1;simp only [List.cons.injEq,and_true] at eg1
  obtain ⟨n2,eg2,-,bg2⟩:=DataW.trod_int (cs:=[v2]) Tryz.underlying3 g2;simp only [List.cons.injEq,and_true] at eg2;obtain ⟨n3,eg3,-,bg3⟩:=DataW.trod_int (cs:=[v3]) Tryz.underlying3 g3;simp only [List.cons.injEq,and_true] at eg3;obtain ⟨n4,eg4,-,bg4⟩:=DataW.trod_int (cs:=[v4]) Tryz.underlying3 g4;simp only [List.cons.injEq,and_true] at eg4;obtain ⟨n5,eg5,-,bg5⟩:=DataW.trod_int (cs:=[v5]) Tryz.underlying3 g5;simp only [List.cons.injEq,and_true] at eg5;obtain ⟨sn,eg6,-,-⟩:=DataW.trod_string (cs:=[v6]) Tryz.underlying9 g6
  simp only [List.cons.injEq,and_true] at eg6;obtain ⟨rk,eg7,bg7⟩:=Rl.trod_float (cs:=[v7]) Tryz.underlying47 g7;simp only [List.cons.injEq,and_true] at eg7
  have hrk:rk < 2 * Fl.S:=by
   have:rk < 2 ^ 64:=by simpa [Lit.wf] using bg7
   unfold Fl.S;omega
  exact ⟨⟨n0,n1,n2,n3,n4,n5,sn,rk⟩,by rw [eg0,eg1,eg2,eg3,eg4,eg5,eg6,eg7];rfl,hrk⟩
theorem mvs_of {H:Type} {enc:TypeId × Value → H} {W:World} {b:Nat} {v:Value} {d:DataW H} {p:List MemPlace} (o:Value.okWide Tryz.prog W .any b 25 v) (h:DataW.Trod enc Tryz.prog W 0 (fun _ => true) true 25 v d p) :
  ∃ l:List Mv,Mem.Mvs W v l ∧ (∀ z ∈ l,z.rk < 2 * Fl.S) ∧ l.length ≤ maxLen:=by
 refine sl_of (f:=movC) Tryz.underlying25 (by kernel_rfl) movC_len (by omega) (fun n cs x hl hx => ?_) h (Opened.ok_slice Tryz.underlying25 o)
 obtain ⟨xs,k,hk,hxy,_,hxl,hf⟩:=DataW.trod_struct Tryz.underlying49 hx
 match cs,hl with
 | [v0,v1,v2,v3,v4,v5],_ =>
  have g0:DataW.trod enc Tryz.prog W 0 (fun _ => true) true k 24 (([v0,v1,v2,v3,v4,v5].drop 0).take (Tryz.prog.cellsOf 24)) = xs[0]?:=hf 0 _ rfl;rw [show Tryz.prog.cellsOf 24 = 2 by kernel_rfl] at g0;obtain ⟨yg0,hyg0⟩:=some_at (l:=xs) (k:=0) (by rw [hxl];decide);rw [hyg0] at g0;have g1:DataW.trod enc Tryz.prog W 0 (fun _ => true) true k 3 (([v0,v1,v2,v3,v4,v5].drop 2).take (Tryz.prog.cellsOf 3)) = xs[1]?:=hf 1 _ rfl;rw [show Tryz.prog.cellsOf 3 = 1 by kernel_rfl] at g1;obtain ⟨yg1,hyg1⟩:=some_at (l:=xs) (k:=1) (by rw [hxl];decide);rw [hyg1] at g1
  have g2:DataW.trod enc Tryz.prog W 0 (fun _ => true) true k 3 (([v0,v1,v2,v3,v4,v5].drop 3).take (Tryz.prog.cellsOf 3)) = xs[2]?:=hf 2 _ rfl;rw [show Tryz.prog.cellsOf 3 = 1 by kernel_rfl] at g2;obtain ⟨yg2,hyg2⟩:=some_at (l:=xs) (k:=2) (by rw [hxl];decide);rw [hyg2] at g2;have g3:DataW.trod enc Tryz.prog W 0 (fun _ => true) true k 9 (([v0,v1,v2,v3,v4,v5].drop 4).take (Tryz.prog.cellsOf 9)) = xs[3]?:=hf 3 _ rfl;rw [show Tryz.prog.cellsOf 9 = 1 by kernel_rfl] at g3;obtain ⟨yg3,hyg3⟩:=some_at (l:=xs) (k:=3) (by rw [hxl];decide);rw [hyg3] at g3
  have g4:DataW.trod enc Tryz.prog W 0 (fun _ => true) true k 47 (([v0,v1,v2,v3,v4,v5].drop 5).take (Tryz.prog.cellsOf 47)) = xs[4]?:=hf 4 _ rfl;rw [show Tryz.prog.cellsOf 47 = 1 by kernel_rfl] at g4;obtain ⟨yg4,hyg4⟩:=some_at (l:=xs) (k:=4) (by rw [hxl];decide);rw [hyg4] at g4;obtain ⟨xt,kt,hkt,hxyt,_,hxlt,hft⟩:=DataW.trod_struct (cs:=[v0,v1]) Tryz.underlying24 g0;have u0:DataW.trod enc Tryz.prog W 0 (fun _ => true) true kt 3 (([v0,v1].drop 0).take (Tryz.prog.cellsOf 3)) = xt[0]?:=hft 0 _ rfl;rw [show Tryz.prog.cellsOf 3 = 1 by kernel_rfl] at u0
  obtain ⟨yu0,hyu0⟩:=some_at (l:=xt) (k:=0) (by rw [hxlt];decide);rw [hyu0] at u0;have u1:DataW.trod enc Tryz.prog W 0 (fun _ => true) true kt 3 (([v0,v1].drop 1).take (Tryz.prog.cellsOf 3)) = xt[1]?:=hft 1 _ rfl;rw [show Tryz.prog.cellsOf 3 = 1 by kernel_rfl] at u1;obtain ⟨yu1,hyu1⟩:=some_at (l:=xt) (k:=1) (by rw [hxlt];decide);rw [hyu1] at u1;obtain ⟨n0,eu0,-,bu0⟩:=DataW.trod_int (cs:=[v0]) Tryz.underlying3 u0;simp only [List.cons.injEq,and_true] at eu0;obtain ⟨n1,eu1,-,bu1⟩:=DataW.trod_int (cs:=[v1]) Tryz.underlying3 u1
  simp only [List.cons.injEq,and_true] at eu1;obtain ⟨n2,eg1,-,bg1⟩:=DataW.trod_int (cs:=[v2]) Tryz.underlying3 g1;simp only [List.cons.injEq,and_true] at eg1;obtain ⟨n3,eg2,-,bg2⟩:=DataW.trod_int (cs:=[v3]) Tryz.underlying3 g2;simp only [List.cons.injEq,and_true] at eg2;obtain ⟨sn,eg3,-,-⟩:=DataW.trod_string (cs:=[v4]) Tryz.underlying9 g3;simp only [List.cons.injEq,and_true] at eg3;obtain ⟨rk,eg4,bg4⟩:=Rl.trod_float (cs:=[v5]) Tryz.underlying47 g4;simp only [List.cons.injEq,and_true] at eg4
  have hrk:rk < 2 * Fl.S:=by
   have:rk < 2 ^ 64:=by simpa [Lit.wf] using bg4
   unfold Fl.S;omega
  exact ⟨⟨⟨n0,n1⟩,n2,n3,sn,rk⟩,by rw [eu0,eu1,eg1,eg2,eg3,eg4];rfl,hrk⟩
end Tw
end
section
open Go.RowKit Go.Shelf
namespace Tw
open Mem Tp Tr Mo Fo Sn Og St Pl Iv Rf
structure Boxed (W:World) (q:Rp) (B:Nat) (y:X3) (wx:World):Prop where
 h:wx.heap[B]? = some (rpO y)
 r:RepX wx y
 b:Below W.heap.size W wx
 y:y.2 = q
theorem boxed_old {W w6:World} {vb vl vm vb' vl' vm':Value} {q:Rp} (hX:∀ k,vb.ownBlock = some k ∨ vl.ownBlock = some k ∨ vm.ownBlock = some k → k < W.heap.size) (hB:Back (W.alloc rep0).drew w6 vb vl vm vb' vl' vm' q) (b6:Below (W.alloc rep0).drew.heap.size (W.alloc rep0).drew w6) :
  Boxed W q W.heap.size (⟨vb',vl',vm'⟩,q) (((((w6.setCell ⟨W.heap.size,0,none⟩ vb').setCell ⟨W.heap.size,1,none⟩ (.int .i64 q.fl.c)).setCell ⟨W.heap.size,2,none⟩ (.int .i64 q.fl.r)).setCell ⟨W.heap.size,3,none⟩ vl').setCell ⟨W.heap.size,4,none⟩ vm'):=by
 have hs:(W.alloc rep0).drew.heap.size = W.heap.size + 1:=by show (W.alloc rep0).heap.size = _;simp
 have g:(W.alloc rep0).drew.heap[W.heap.size]? = some rep0:=alloc_new W rep0;have g6:=below_at b6 g (by omega);have h5:=set5 (cs:=[.slice none 0 0,.int .i64 0,.int .i64 0,.slice none 0 0,.slice none 0 0]) g6 0 vb' (.int .i64 q.fl.c) (.int .i64 q.fl.r) vl' vm' (by decide)
 have ho:=fun j (hj:j ≠ W.heap.size) => set5_other (w:=w6) hj 0 vb' (.int .i64 q.fl.c) (.int .i64 q.fl.r) vl' vm'
 have b60:Below W.heap.size W w6:=((Below.refl W.heap.size W).alloc (Nat.le_refl _) rep0).drew.trans (b6.mono (by omega));have hbe:=set5_below b60 (Nat.le_refl _) 0 vb' (.int .i64 q.fl.c) (.int .i64 q.fl.r) vl' vm'
 have hne:∀ k,blocks (⟨vb',vl',vm'⟩,q) k → k ≠ W.heap.size:=fun k hk => by
  rcases hk with e | e | e
  ·rcases hB.nb k e with h | h
   ·have:=hX k (.inl h);omega
   ·omega
  ·rcases hB.nl k e with h | h
   ·have:=hX k (.inr (.inl h));omega
   ·omega
  ·rcases hB.nm k e with h | h
   ·have:=hX k (.inr (.inr h));omega
   ·omega
 exact ⟨h5,RepX.same (x:=(⟨vb',vl',vm'⟩,q)) hB.r (by simp [World.setCell]) (fun k hk => ho k (hne k hk)),hbe,rfl⟩
theorem boxed_new {W w6:World} {vb vl vm vb' vl' vm':Value} {q:Rp} (hB:Back W.drew w6 vb vl vm vb' vl' vm' q) (b6:Below W.drew.heap.size W.drew w6) :
  Boxed W q w6.heap.size (⟨vb',vl',vm'⟩,q) (w6.alloc (.cells #[vb',.int .i64 q.fl.c,.int .i64 q.fl.r,vl',vm'] 34)):=by
 have b60:Below W.heap.size W w6:=(Below.refl W.heap.size W).drew.trans b6;exact ⟨alloc_new _ _,RepW.below hB.r ((Below.refl w6.heap.size w6).alloc (Nat.le_refl _) _),b60.alloc b60.size _,rfl⟩
end Tw
end
section
open Go.RowKit Go.Shelf
namespace Tw
open Mem Tp Tr Mo Fo Sn Og St Pl Iv Rf
def Rel (r q:Rp):Prop:=∃ pre,q.base = foldM r.base pre ∧ r.log = pre ++ q.log ∧ (∀ x ∈ pre,bef q.fl x.t = false) ∧ ∀ t,bef q.fl t = true → bef r.fl t = true
theorem Rel.tree {r q:Rp} (h:Rel r q):treeR q = treeR r:=by
 obtain ⟨pre,h1,h2,-,-⟩:=h;unfold treeR;rw [h1,h2];unfold foldM;rw [List.foldl_append]
theorem rel_prune {n:Nat} {r:Rp} (h:InvR n r) {t:Tm} (he:(pruneR r t).2 = 0):Rel r (pruneR r t).1:=by
 by_cases hk:knownT r.mks t
 ·by_cases hb:bef r.fl t = true
  ·rw [pruneR_yes hk hb]
   have hs:=since_split (t:=t) h.lrise;exact ⟨upto r t,rfl,hs.1.symm,hs.2,fun u hu => bef_trans hb hu⟩
  ·rw [pruneR_old hk (by simpa using hb)]
   exact ⟨[],rfl,rfl,fun x hx => by simp at hx,fun u hu => hu⟩
 ·rw [pruneR_no hk] at he
  exact absurd he (by simp)
theorem prune_err {r:Rp} {t:Tm} (he:(pruneR r t).2 ≠ 0):(pruneR r t).1 = r:=by
 by_cases hk:knownT r.mks t
 ·by_cases hb:bef r.fl t = true
  ·rw [pruneR_yes hk hb] at he;exact absurd rfl he
  ·rw [pruneR_old hk (by simpa using hb)]
 ·rw [pruneR_no hk]
theorem ins_skip {α:Type} {p:α → Bool} {x:α}:∀ {a b:List α},(∀ y ∈ a,p y = false) → ins p x (a ++ b) = a ++ ins p x b
 | [],_,_ => rfl
 | y :: a,b,h => by
  rw [List.cons_append,ins_no _ _ (h y List.mem_cons_self),ins_skip (fun z hz => h z (List.mem_cons_of_mem _ hz))]
  rfl
theorem insM_ins {l:List Mv} {m:Mv} (h:hasT l m.t = false):insM l m = ins (fun x => bef m.t x.t) m l:=by
 unfold insM;rw [if_neg (by rw [h];simp)]
 rfl
theorem rel_add {r q:Rp} (h:Rel r q) {m:Mv} (hs:¬ (oneM m = true ∧ bef q.fl m.t = false)):(addR r m).2.2 = (addR q m).2.2 ∧ Rel (addR r m).1 (addR q m).1:=by
 by_cases h1:oneM m = true
 ·have h2:bef q.fl m.t = true:=by
   by_cases e:bef q.fl m.t = true
   ·exact e
   ·exact absurd ⟨h1,by simpa using e⟩ hs
  obtain ⟨pre,e1,e2,e3,e4⟩:=id h;have h3:=e4 _ h2
  have hp:∀ x ∈ pre,x.t ≠ m.t:=fun x hx e => by
   have:=e3 x hx;rw [e,h2] at this
   cases this
  have hh:hasT r.log m.t = hasT q.log m.t:=by
   rw [Bool.eq_iff_iff,hasT_yes,hasT_yes,e2]
   constructor
   ·rintro ⟨x,hx,e⟩
    rcases List.mem_append.1 hx with hx | hx
    ·exact absurd e (hp x hx)
    ·exact ⟨x,hx,e⟩
   ·rintro ⟨x,hx,e⟩
    exact ⟨x,List.mem_append_right _ hx,e⟩
  by_cases h4:hasT q.log m.t = true
  ·rw [addR_old h1 h3 (hh.trans h4),addR_old h1 h2 h4]
   exact ⟨rfl,h⟩
  ·have h4':hasT q.log m.t = false:=by simpa using h4
   rw [addR_yes h1 h3 (hh.trans h4'),addR_yes h1 h2 h4'];refine ⟨rfl,pre,e1,?_,e3,e4⟩
   show insM r.log m = pre ++ insM q.log m
   rw [insM_ins (hh.trans h4'),insM_ins h4',e2];refine ins_skip (fun x hx => ?_)
   by_cases e:bef m.t x.t = true
   ·have:=bef_trans h2 e
    rw [e3 x hx] at this
    cases this
   ·simpa using e
 ·have h1':oneM m = false:=by simpa using h1
  rw [addR_bad h1',addR_bad h1'];exact ⟨rfl,h⟩
structure BoxN (W:World) (x:X3) (q:Rp) (B:Nat) (y:X3) (wx:World):Prop where
 o:Boxed W q B y wx
 n:∀ k,blocks y k → blocks x k ∨ W.heap.size ≤ k
 g:W.heap.size ≤ B
theorem back_nb {W w6:World} {x:X3} {vb' vl' vm':Value} {q q':Rp} (hB:Back W w6 x.1.b x.1.l x.1.m vb' vl' vm' q):∀ k,blocks (⟨vb',vl',vm'⟩,q') k → blocks x k ∨ W.heap.size ≤ k:=by
 rintro k (e | e | e)
 ·exact (hB.nb k e).imp .inl (fun h => h.1)
 ·exact (hB.nl k e).imp (fun h => .inr (.inl h)) (fun h => h.1)
 ·exact (hB.nm k e).imp (fun h => .inr (.inr h)) (fun h => h.1)
theorem boxN_old {W w6:World} {x:X3} {vb' vl' vm':Value} {q:Rp} (hX:RepX W x) (hB:Back (W.alloc rep0).drew w6 x.1.b x.1.l x.1.m vb' vl' vm' q) (b6:Below (W.alloc rep0).drew.heap.size (W.alloc rep0).drew w6) :
  BoxN W x q W.heap.size (⟨vb',vl',vm'⟩,q) (((((w6.setCell ⟨W.heap.size,0,none⟩ vb').setCell ⟨W.heap.size,1,none⟩ (.int .i64 q.fl.c)).setCell ⟨W.heap.size,2,none⟩ (.int .i64 q.fl.r)).setCell ⟨W.heap.size,3,none⟩ vl').setCell ⟨W.heap.size,4,none⟩ vm'):=
 ⟨boxed_old (fun k h => hX.lt h) hB b6,fun k hk => (back_nb hB k hk).imp id (fun h => by have hs:(W.alloc rep0).drew.heap.size = W.heap.size + 1:=(by show (W.alloc rep0).heap.size = _;simp);omega),Nat.le_refl _⟩
theorem boxN_new {W w6:World} {x:X3} {vb' vl' vm':Value} {q:Rp} (hB:Back W.drew w6 x.1.b x.1.l x.1.m vb' vl' vm' q) (b6:Below W.drew.heap.size W.drew w6) :
  BoxN W x q w6.heap.size (⟨vb',vl',vm'⟩,q) (w6.alloc (.cells #[vb',.int .i64 q.fl.c,.int .i64 q.fl.r,vl',vm'] 34)):=
 ⟨boxed_new hB b6,fun k hk => back_nb (W:=W.drew) hB k hk,b6.size⟩
structure Two (w:World) (B8 B10:Nat) (W:World) (x y:X3) (n:Nat):Prop where
 h8:W.heap[B8]? = some (rpO x)
 h10:W.heap[B10]? = some (rpO y)
 rx:RepX W x
 ry:RepX W y
 nx:∀ k,blocks x k → k ≠ B8 ∧ k ≠ B10
 ny:∀ k,blocks y k → k ≠ B8 ∧ k ≠ B10
 be:Below w.heap.size w W
 rel:Rel x.2 y.2
 ix:InvR n x.2
 iy:InvR n y.2
theorem Two.below {w:World} {B8 B10:Nat} {W W':World} {x y:X3} {n:Nat} (h:Two w B8 B10 W x y n) (hb:Below W.heap.size W W'):Two w B8 B10 W' x y n:=
 ⟨below_at hb h.h8 (lt_of_block h.h8),below_at hb h.h10 (lt_of_block h.h10),RepW.below h.rx hb,RepW.below h.ry hb,h.nx,h.ny,h.be.trans (hb.mono h.be.size),h.rel,h.ix,h.iy⟩
theorem Two.mono {w:World} {B8 B10:Nat} {W:World} {x y:X3} {n m:Nat} (h:Two w B8 B10 W x y n) (hm:n ≤ m):Two w B8 B10 W x y m:=⟨h.h8,h.h10,h.rx,h.ry,h.nx,h.ny,h.be,h.rel,h.ix.mono hm,h.iy.mono hm⟩
theorem Two.set {w:World} {B8 B10:Nat} {W W1 W2:World} {x y a b:X3} {n:Nat} (h:Two w B8 B10 W x y n) (hne:B8 ≠ B10) (h8:w.heap.size ≤ B8) (h10:w.heap.size ≤ B10) (ha:RepX W a) (hb:RepX W b) (na:∀ k,blocks a k → k ≠ B8 ∧ k ≠ B10) (nb:∀ k,blocks b k → k ≠ B8 ∧ k ≠ B10)
  (g1:W1.heap[B8]? = some (rpO a)) (o1:∀ k,k ≠ B8 → W1.heap[k]? = W.heap[k]?) (c1:∀ B (w0:World),Below B w0 W → B ≤ B8 → Below B w0 W1) (g2:W2.heap[B10]? = some (rpO b)) (o2:∀ k,k ≠ B10 → W2.heap[k]? = W1.heap[k]?) (c2:∀ B (w0:World),Below B w0 W1 → B ≤ B10 → Below B w0 W2)
  (rel:Rel a.2 b.2) (ia:InvR (n + 1) a.2) (ib:InvR (n + 1) b.2):Two w B8 B10 W2 a b (n + 1):=
 have s1:=(c1 0 _ (Below.refl 0 _) (Nat.zero_le _)).size;have s2:=(c2 0 _ (Below.refl 0 _) (Nat.zero_le _)).size
 ⟨(o2 _ hne).trans g1,g2,ha.same (Nat.le_trans s1 s2) (fun k hk => (o2 k (na k hk).2).trans (o1 k (na k hk).1)),hb.same (Nat.le_trans s1 s2) (fun k hk => (o2 k (nb k hk).2).trans (o1 k (nb k hk).1)),na,nb,c2 _ _ (c1 _ _ h.be h8) h10,rel,ia,ib⟩
theorem sameP_self (r:Rp):sameP r r = true:=sameP_eq.2 ⟨rfl,rfl,rfl,rfl⟩
end Tw
end
section
open Go.RowKit Go.Shelf
attribute [local go_sem] Fl.run_store_float
namespace Tw
open Mem Tp Tr Mo Fo Sn Og St Pl Iv Rf
theorem okD_of {l:List Dd} {most:Nat} (h:short_anyD l most = true) (hm:most ≤ 45) (hr:∀ z ∈ l,z.rk < 2 * Fl.S):OkD l:=by
 have h:=of_decide_eq_true h;exact ⟨by omega,fun d hd => ⟨h.2 d hd,hr d hd⟩⟩
end Tw
end
end Go.Proofs.YtnlijlknjhkoaaaGreat
