/-
  PART 4 of what law TopSettles leans on: plain lemmas and walks, of which each says its own condition.
-/
import Derived.Test.YtnlijlknjhkoaaaGreatP3
open Go.Lib (hid)
set_option maxRecDepth 100000
set_option maxHeartbeats 16000000
namespace Go.Proofs.YtnlijlknjhkoaaaGreat
section
open Go.RowKit Go.Shelf
attribute [local go_sem] Fl.run_store_float
namespace Og
open Mem Tp Tr Mo Pk
def dEnc (l:List Int):List UInt8:=Dl.enc (Dl.subs 0 l)
def opC (l:List Mv):List Ck.Ch:=
 [(4,str (putL l.length)),(5,str (partL (dEnc (l.map (·.t.c))) ++ Rn.encRuns (l.map fun m => m.t.r.toNat))),(6,str (partL (dEnc (l.map (·.pa))) ++ dEnc (l.map (·.ch)))),
  (7,str (Dc.encDict (l.map (·.nm)))),(8,str (ranksL (l.map (·.rk))))]
theorem chs_of_block {W:World} {b:Nat} {l:List Ck.Ch} {n:Nat} (hb:W.heap[b]? = some (.cells (Ck.cellsC l).toArray 57 (0,0))) (hn:l.length = n) (hok:∀ c ∈ l,Ck.Ok c):Ck.Chs W (.slice (some ⟨b,0,none⟩) n n) l:=by
 refine ⟨⟨_,n,by rw [hn],by omega,(fun e => by cases e),fun _ => ⟨b,0,rfl,lt_of_block hb,fun j hj => ?_⟩⟩,hok⟩
 obtain ⟨e1,e2⟩:=Ck.cellsC_at l j hj;rw [cell_at hb,cell_at hb,← e1,← e2];simp
theorem dEnc_len (l:List Int):(dEnc l).length ≤ 10 * l.length:=by
 have:=Dl.enc_len (Dl.subs 0 l)
 rwa [Dl.subs_length] at this
theorem ranksL_len (zs:List Nat):(ranksL zs).length ≤ 20 + 40 * zs.length:=by
 unfold ranksL;have h1:=partL_len (Fg.encFlags (someL zs));have h2:=Fg.encFlags_len (someL zs);have h3:=Rl.encR_len (restL zs) 0;have h4:=restL_len zs;rw [someL_len] at h2;rw [List.length_append];omega
theorem opC_ok (l:List Mv) (hl:l.length ≤ 300) (hn:∀ x ∈ l,oneM x = true):∀ c ∈ opC l,Ck.Ok c:=by
 have h1:=dEnc_len (l.map (·.t.c));have h2:=Rn.encRuns_len (l.map fun m => m.t.r.toNat);have h3:=dEnc_len (l.map (·.pa));have h4:=dEnc_len (l.map (·.ch))
 have h5:(Dc.encDict (l.map (·.nm))).length ≤ 10 + (10 + 64) * (l.map (·.nm)).length + 20 * (l.map (·.nm)).length:=Dc.encDict_len (fun s hs => by
  obtain ⟨m,hm,rfl⟩:=List.mem_map.1 hs;have:=(Fo.oneR_in (Fo.oneM_in (hn m hm)).2).1;unfold rowOf at this
  exact this.2.2.2.2)
 have h6:=ranksL_len (l.map (·.rk));have h7:=partL_len (dEnc (l.map (·.t.c)));have h8:=partL_len (dEnc (l.map (·.pa)));have h9:=putL_length l.length;rw [List.length_map] at h1 h2 h3 h4 h5 h6;intro c hc;simp only [opC,List.mem_cons,List.not_mem_nil,or_false] at hc;unfold Ck.Ok Ck.I64 maxLen
 rcases hc with rfl | rfl | rfl | rfl | rfl
 all_goals
  refine ⟨(by constructor <;> (dsimp only;omega)),?_⟩
  dsimp only
  rw [str_size]
  try rw [List.length_append]
  omega
def colL (l:List Mv) (vc vr vp vh vn vk:Value) (k1 k2 k3:Nat):List (TypeId × Value × List Value):=
 [(3,vc,(l.take k1).map fun m => i64C m.t.c),(120,vr,(l.take k1).map fun m => u64C m.t.r.toNat),(3,vp,(l.take k2).map fun m => i64C m.pa),(3,vh,(l.take k2).map fun m => i64C m.ch),
  (9,vn,(l.take k3).map fun m => strC m.nm),(47,vk,(l.take k3).map fun m => fltC m.rk)]
theorem encode_any (v:Value) (l:List Mv) (w:World) (hS:Mem.Mvs w v l) (hl:l.length ≤ 300) (hn:∀ x ∈ l,oneM x = true) (hk:∀ x ∈ l,x.rk < 2 * Fl.S) (hso:l.Pairwise (fun a b => bef a.t b.t = true)) :
  Calls Tryz.prog 48 #[v] w fun e w' => (∃ v',e = .returned (.tuple #[v',.int .i64 0]) ∧ Ck.Chs w' v' (opC l)) ∧ Below w.heap.size w w':=by
 obtain ⟨i0,hi,hz0,hz1,hz2⟩:=info_parts Mr.infoInt;obtain ⟨i1,hi1,hy0,hy1,hy2⟩:=info_parts infoU;obtain ⟨i2,hi2,hst0,hst1,hst2⟩:=info_parts infoS;obtain ⟨i3,hi3,hv0,hv1,hv2⟩:=info_parts Rl.infoF;have HM:=hid (Mo.may_ok v l w hS (by omega) hn (fun x h => by have:=(Fo.oneR_in (Fo.oneM_in (hn x h)).2).1;unfold rowOf at this;dsimp only at this;omega) (fun j a b h k => Fo.pw_adj hso j a b h k));obtain ⟨a,c,rfl⟩:=hS.len;have HS:=hid hS;have HN:=hid hn;have HK:=hid hk;clear hS hn hk hso;go_enter Tryz.func48,Tryz.ntmps48;go_wp2_with fail
 refine HM.out.mono ?_
 rintro e w1 ⟨rfl,b1⟩;have hF0:=hid (Fam.nil w1 w1.heap.size [3,120,3,3,9,47]);replace b1:=hid b1;clear HM;go_wp2_with fail
 go_loopw [4,7,5,6,8,9,17] (fun vc vr vp vh vn vk i wr => ∃ k:Nat,i = .int .i64 k ∧ k ≤ l.length ∧ Hid (Fam wr w1.heap.size (colL l vc vr vp vh vn vk k k k)) ∧ Hid (Below w1.heap.size w1 wr)) (fun _ _ _ _ _ _ i _ => l.length - (intOf i).toNat)
 case atStart => exact ⟨0,rfl,by omega,hF0,hid (Below.refl _ _)⟩
 case round =>
  clear hF0;obtain ⟨k,rfl,hk,hF,hb⟩:=hrel
  by_cases hlt:k < l.length
  ·have hlt':(k:Int) < (l.length:Nat):=by omega
   obtain ⟨x,hx⟩:=some_at hlt;obtain ⟨b,off,rfl⟩:=HS.out.addr (by omega);obtain ⟨q0,q1,q2,q3,q4,q5⟩:=mov_at (HS.out.below (b1.out.trans (hb.out.mono b1.out.size))) rfl hx;have hxm:=List.mem_of_getElem? hx;have hsz:=hb.out.size;obtain ⟨hot,hor⟩:=Fo.oneM_in (HN.out x hxm);have hx1:=hot.2.2.1;have hx2:=hot.2.2.2
   have hu0:IntKind.u64.wrap x.t.r = (x.t.r.toNat:Int):=by rw [IntWalk.u64_in _ (by omega)];omega
   have hc1:(l.take (k + 1)).map (fun m => i64C m.t.c) = (l.take k).map (fun m => i64C m.t.c) ++ [.int .i64 x.t.c]:=by rw [take_snoc hx,map_snoc];rfl
   obtain ⟨rr,hrr⟩:∃ rr:Nat,x.t.r.toNat = rr:=⟨_,rfl⟩
   have hr1:(l.take (k + 1)).map (fun m => u64C m.t.r.toNat) = (l.take k).map (fun m => u64C m.t.r.toNat) ++ [.int .u64 (rr:Int)]:=by rw [take_snoc hx,map_snoc,← hrr];rfl
   have hp1:(l.take (k + 1)).map (fun m => i64C m.pa) = (l.take k).map (fun m => i64C m.pa) ++ [.int .i64 x.pa]:=by rw [take_snoc hx,map_snoc];rfl
   have hh1:(l.take (k + 1)).map (fun m => i64C m.ch) = (l.take k).map (fun m => i64C m.ch) ++ [.int .i64 x.ch]:=by rw [take_snoc hx,map_snoc];rfl
   have hn1:(l.take (k + 1)).map (fun m => strC m.nm) = (l.take k).map (fun m => strC m.nm) ++ [.string x.nm]:=by rw [take_snoc hx,map_snoc];rfl
   have hk1:(l.take (k + 1)).map (fun m => fltC m.rk) = (l.take k).map (fun m => fltC m.rk) ++ [.float .f64 x.rk]:=by rw [take_snoc hx,map_snoc];rfl
   have hu:=hid (show IntKind.u64.wrap x.t.r = (rr:Int) by rw [hu0,hrr]);clear hu0 hrr;replace hc1:=hid hc1;replace hr1:=hid hr1;replace hp1:=hid hp1;replace hh1:=hid hh1;replace hn1:=hid hn1;replace hk1:=hid hk1;have hF':=hid (hF.out.alloc (.cells #[.int .i64 x.t.c,.int .i64 x.t.r,.int .i64 x.pa,.int .i64 x.ch,.string x.nm,.float .f64 x.rk] 49));have hx':=hid (alloc_new wr (.cells #[.int .i64 x.t.c,.int .i64 x.t.r,.int .i64 x.pa,.int .i64 x.ch,.string x.nm,.float .f64 x.rk] 49))
   have hb':=hid (hb.out.alloc hsz (.cells #[.int .i64 x.t.c,.int .i64 x.t.r,.int .i64 x.pa,.int .i64 x.ch,.string x.nm,.float .f64 x.rk] 49));clear hx hF hb
   go_upto_region 10 with fail
   obtain ⟨W0,hW0⟩:∃ W0,wr.alloc (.cells #[.int .i64 x.t.c,.int .i64 x.t.r,.int .i64 x.pa,.int .i64 x.ch,.string x.nm,.float .f64 x.rk] 49) = W0:=⟨_,rfl⟩;rw [hW0] at hF' hx' hb' ⊢;clear hW0;have hsz0:=hb'.out.size;have hxl:=lt_of_block hx'.out;generalize wr.heap.size = g at *
   go_cut [4,7] (fun v4 v7 wx => Hid (Fam wx w1.heap.size (colL l v4 v7 u5 u6 u8 u9 (k + 1) k k)) ∧ Hid (Below w1.heap.size w1 wx) ∧ Hid (wx.heap[g]? = some (.cells #[.int .i64 x.t.c,.int .i64 x.t.r,.int .i64 x.pa,.int .i64 x.ch,.string x.nm,.float .f64 x.rk] 49 (0,0))))
   case first =>
    have cS:∀ W:World,W.heap[g]? = some (.cells #[.int .i64 x.t.c,.int .i64 x.t.r,.int .i64 x.pa,.int .i64 x.ch,.string x.nm,.float .f64 x.rk] 49 (0,0)) → Below w1.heap.size w1 W → W.cell? ⟨g,0,none⟩ = some (.int .i64 x.t.c) ∧ W.cell? ⟨g,1,none⟩ = some (.int .i64 x.t.r) ∧ W.heap[g]? = some (.cells #[.int .i64 x.t.c,.int .i64 x.t.r,.int .i64 x.pa,.int .i64 x.ch,.string x.nm,.float .f64 x.rk] 49 (0,0)) ∧ Below w1.heap.size w1 W:=fun W h1 h2 => ⟨cell_at h1 0,cell_at h1 1,h1,h2⟩
    replace cS:=hid cS;have hu':=hu.out
    go_region_held3 (fun W:World => W.cell? ⟨g,0,none⟩ = some (.int .i64 x.t.c) ∧ W.cell? ⟨g,1,none⟩ = some (.int .i64 x.t.r) ∧ W.heap[g]? = some (.cells #[.int .i64 x.t.c,.int .i64 x.t.r,.int .i64 x.pa,.int .i64 x.ch,.string x.nm,.float .f64 x.rk] 49 (0,0)) ∧ Below w1.heap.size w1 W)
     (first | assumption | exact cS.out _ hx'.out hb'.out.drew | exact cS.out _ (alloc_at _ hx'.out) (hb'.out.alloc hsz0 _).drew | exact cS.out _ (alloc_at _ (alloc_at _ hx'.out)) ((hb'.out.alloc hsz0 _).alloc (by simp;omega) _).drew | (refine cS.out _ (alloc_at _ ?_) (Below.alloc ?_ ?_ _) <;> first | assumption | omega | (simp;omega)))
     ((first
       | (refine step_append_near (by rfl) (.tmp 21) (.tmp 25) 82 (by rfl) w1.heap.size 3 i0 _ 1 8 Tryz.underlying82 hi hz0 hz1 hz2 rfl (by decide) u4 ((l.take k).map fun m => i64C m.t.c).length ((l.take k).map fun m => i64C m.t.c) (by rfl) ?_ _ 1 1 [.int .i64 x.t.c] (by rfl) rfl ?_ (one_cell (v:=.int .i64 x.t.c) rfl) (by unfold maxLen;first | omega | (simp;omega)) (by first | omega | (simp;omega)) (by assumption:_ ∧ _ ∧ _ ∧ Below w1.heap.size w1 _).2.2.2.size ?_;(exact fam_own (i:=0) (by first | exact (hF'.out.alloc _).drew | exact ((hF'.out.alloc _).alloc _).drew) rfl);(first | exact alloc_new _ _ | exact alloc_at _ (alloc_new _ _) | exact second_new _ _ _);intro v5 w5 hO5 hg5 hn5;obtain ⟨a5,k5,e5⟩:=(own_sl hO5.out).len;subst e5;have hF5:=hid (Fam.app (by first | exact (hF'.out.alloc _).drew | exact ((hF'.out.alloc _).alloc _).drew) (i:=0) rfl hO5.out hg5.out hn5.out);have hh5:w5.heap[g]? = some (.cells #[.int .i64 x.t.c,.int .i64 x.t.r,.int .i64 x.pa,.int .i64 x.ch,.string x.nm,.float .f64 x.rk] 49 (0,0)):=fam_other hg5.out (by assumption:_ ∧ _ ∧ _ ∧ Below w1.heap.size w1 _).2.2.1 (fun e' => fam_not (e:=3) (t:=49) (v:=u4) hF'.out (i:=0) rfl hx'.out (by decide) e');have hb5:Below w1.heap.size w1 w5:=(by assumption:_ ∧ _ ∧ _ ∧ Below w1.heap.size w1 _).2.2.2.grown hg5.out (by assumption:_ ∧ _ ∧ _ ∧ Below w1.heap.size w1 _).2.2.2.size (fun j e => ((fam_own (e:=3) (v:=u4) hF'.out (i:=0) rfl).lt _ e).1);have hS5:=cS.out w5 hh5 hb5;have hz5:=hb5.size;have hzg5:=hg5.out.size;(first | (have hq5:w5.heap[W0.heap.size + 1]? = some (.cells #[.int .u64 (rr:Int)] 120 (0,0)):=fam_other hg5.out (second_new _ _ _) (fun e => by have:=((fam_own (e:=3) (v:=u4) hF'.out (i:=0) rfl).lt _ e).2;omega)) | (have hq5:w5.heap[W0.heap.size]? = some (.cells #[.int .u64 (rr:Int)] 120 (0,0)):=fam_other hg5.out (alloc_at _ (alloc_new _ _)) (fun e => by have:=((fam_own (e:=3) (v:=u4) hF'.out (i:=0) rfl).lt _ e).2;omega)) | skip))
       | (refine step_append_near (by rfl) (.tmp 27) (.tmp 32) 162 (by rfl) w1.heap.size 120 i1 _ 1 8 Tryz.underlying162 hi1 hy0 hy1 hy2 rfl (by decide) u7 ((l.take k).map fun m => u64C m.t.r.toNat).length ((l.take k).map fun m => u64C m.t.r.toNat) (by rfl) ?_ _ 1 1 [.int .u64 (rr:Int)] (by rfl) rfl ?_ (one_cell (v:=.int .u64 (rr:Int)) rfl) (by unfold maxLen;first | omega | (simp;omega)) (by first | omega | (simp;omega)) (by assumption:_ ∧ _ ∧ _ ∧ Below w1.heap.size w1 _).2.2.2.size ?_;(exact fam_own (i:=1) (by first | exact hF5.out | exact hF5.out.alloc _) rfl);(first | exact alloc_new _ _ | exact alloc_at _ (alloc_new _ _) | exact second_new _ _ _ | exact hq5);intro v6 w6 hO6 hg6 hn6;obtain ⟨a6,k6,e6⟩:=(own_sl hO6.out).len;subst e6;have hF6:=hid (Fam.app (by first | exact hF5.out | exact hF5.out.alloc _) (i:=1) rfl hO6.out hg6.out hn6.out);have hh6:w6.heap[g]? = some (.cells #[.int .i64 x.t.c,.int .i64 x.t.r,.int .i64 x.pa,.int .i64 x.ch,.string x.nm,.float .f64 x.rk] 49 (0,0)):=fam_other hg6.out (by assumption:_ ∧ _ ∧ _ ∧ Below w1.heap.size w1 _).2.2.1 (fun e' => fam_not (e:=120) (t:=49) (v:=u7) hF'.out (i:=1) rfl hx'.out (by decide) e');have hb6:Below w1.heap.size w1 w6:=(by assumption:_ ∧ _ ∧ _ ∧ Below w1.heap.size w1 _).2.2.2.grown hg6.out (by assumption:_ ∧ _ ∧ _ ∧ Below w1.heap.size w1 _).2.2.2.size (fun j e => ((fam_own (e:=120) (v:=u7) hF'.out (i:=1) rfl).lt _ e).1);have hS6:=cS.out w6 hh6 hb6;have hz6:=hb6.size;have hzg6:=hg6.out.size)))
    all_goals
     go_wp2_with fail
     go_meet
     refine ⟨?_,hid hb6,hid hh6⟩
     have hfin:=hF6.out;simp only [List.length_map,List.length_take,Nat.min_eq_left (Nat.le_of_lt hlt)] at hfin;unfold colL at hfin;simp only [List.set_cons_zero,List.set_cons_succ] at hfin;rw [← hc1.out,← hr1.out] at hfin;exact hid hfin
   case rest =>
    clear hF' hx' hb' hsz0 hxl;obtain ⟨hF',hb',hx'⟩:=hcut
    go_upto_region 11 with fail
    generalize wc = W0 at *;have hsz0:=hb'.out.size;have hxl:=lt_of_block hx'.out
    go_cut [5,6] (fun v5 v6 wx => Hid (Fam wx w1.heap.size (colL l u4 u7 v5 v6 u8 u9 (k + 1) (k + 1) k)) ∧ Hid (Below w1.heap.size w1 wx) ∧ Hid (wx.heap[g]? = some (.cells #[.int .i64 x.t.c,.int .i64 x.t.r,.int .i64 x.pa,.int .i64 x.ch,.string x.nm,.float .f64 x.rk] 49 (0,0))))
    case first =>
     have cS:∀ W:World,W.heap[g]? = some (.cells #[.int .i64 x.t.c,.int .i64 x.t.r,.int .i64 x.pa,.int .i64 x.ch,.string x.nm,.float .f64 x.rk] 49 (0,0)) → Below w1.heap.size w1 W → W.cell? ⟨g,2,none⟩ = some (.int .i64 x.pa) ∧ W.cell? ⟨g,3,none⟩ = some (.int .i64 x.ch) ∧ W.heap[g]? = some (.cells #[.int .i64 x.t.c,.int .i64 x.t.r,.int .i64 x.pa,.int .i64 x.ch,.string x.nm,.float .f64 x.rk] 49 (0,0)) ∧ Below w1.heap.size w1 W:=fun W h1 h2 => ⟨cell_at h1 2,cell_at h1 3,h1,h2⟩
     replace cS:=hid cS
     go_region_held3 (fun W:World => W.cell? ⟨g,2,none⟩ = some (.int .i64 x.pa) ∧ W.cell? ⟨g,3,none⟩ = some (.int .i64 x.ch) ∧ W.heap[g]? = some (.cells #[.int .i64 x.t.c,.int .i64 x.t.r,.int .i64 x.pa,.int .i64 x.ch,.string x.nm,.float .f64 x.rk] 49 (0,0)) ∧ Below w1.heap.size w1 W)
      (first | assumption | exact cS.out _ hx'.out hb'.out.drew | exact cS.out _ (alloc_at _ hx'.out) (hb'.out.alloc hsz0 _).drew | exact cS.out _ (alloc_at _ (alloc_at _ hx'.out)) ((hb'.out.alloc hsz0 _).alloc (by simp;omega) _).drew | (refine cS.out _ (alloc_at _ ?_) (Below.alloc ?_ ?_ _) <;> first | assumption | omega | (simp;omega)))
      ((first
        | (refine step_append_near (by rfl) (.tmp 34) (.tmp 37) 82 (by rfl) w1.heap.size 3 i0 _ 1 8 Tryz.underlying82 hi hz0 hz1 hz2 rfl (by decide) u5 ((l.take k).map fun m => i64C m.pa).length ((l.take k).map fun m => i64C m.pa) (by rfl) ?_ _ 1 1 [.int .i64 x.pa] (by rfl) rfl ?_ (one_cell (v:=.int .i64 x.pa) rfl) (by unfold maxLen;first | omega | (simp;omega)) (by first | omega | (simp;omega)) (by assumption:_ ∧ _ ∧ _ ∧ Below w1.heap.size w1 _).2.2.2.size ?_;(exact fam_own (i:=2) (by first | exact (hF'.out.alloc _).drew | exact ((hF'.out.alloc _).alloc _).drew) rfl);(first | exact alloc_new _ _ | exact alloc_at _ (alloc_new _ _) | exact second_new _ _ _);intro v5 w5 hO5 hg5 hn5;obtain ⟨a5,k5,e5⟩:=(own_sl hO5.out).len;subst e5;have hF5:=hid (Fam.app (by first | exact (hF'.out.alloc _).drew | exact ((hF'.out.alloc _).alloc _).drew) (i:=2) rfl hO5.out hg5.out hn5.out);have hh5:w5.heap[g]? = some (.cells #[.int .i64 x.t.c,.int .i64 x.t.r,.int .i64 x.pa,.int .i64 x.ch,.string x.nm,.float .f64 x.rk] 49 (0,0)):=fam_other hg5.out (by assumption:_ ∧ _ ∧ _ ∧ Below w1.heap.size w1 _).2.2.1 (fun e' => fam_not (e:=3) (t:=49) (v:=u5) hF'.out (i:=2) rfl hx'.out (by decide) e');have hb5:Below w1.heap.size w1 w5:=(by assumption:_ ∧ _ ∧ _ ∧ Below w1.heap.size w1 _).2.2.2.grown hg5.out (by assumption:_ ∧ _ ∧ _ ∧ Below w1.heap.size w1 _).2.2.2.size (fun j e => ((fam_own (e:=3) (v:=u5) hF'.out (i:=2) rfl).lt _ e).1);have hS5:=cS.out w5 hh5 hb5;have hz5:=hb5.size;have hzg5:=hg5.out.size;(first | (have hq5:w5.heap[W0.heap.size + 1]? = some (.cells #[.int .i64 x.ch] 3 (0,0)):=fam_other hg5.out (second_new _ _ _) (fun e => by have:=((fam_own (e:=3) (v:=u5) hF'.out (i:=2) rfl).lt _ e).2;omega)) | (have hq5:w5.heap[W0.heap.size]? = some (.cells #[.int .i64 x.ch] 3 (0,0)):=fam_other hg5.out (alloc_at _ (alloc_new _ _)) (fun e => by have:=((fam_own (e:=3) (v:=u5) hF'.out (i:=2) rfl).lt _ e).2;omega)) | skip))
        | (refine step_append_near (by rfl) (.tmp 39) (.tmp 42) 82 (by rfl) w1.heap.size 3 i0 _ 1 8 Tryz.underlying82 hi hz0 hz1 hz2 rfl (by decide) u6 ((l.take k).map fun m => i64C m.ch).length ((l.take k).map fun m => i64C m.ch) (by rfl) ?_ _ 1 1 [.int .i64 x.ch] (by rfl) rfl ?_ (one_cell (v:=.int .i64 x.ch) rfl) (by unfold maxLen;first | omega | (simp;omega)) (by first | omega | (simp;omega)) (by assumption:_ ∧ _ ∧ _ ∧ Below w1.heap.size w1 _).2.2.2.size ?_;(exact fam_own (i:=3) (by first | exact hF5.out | exact hF5.out.alloc _) rfl);(first | exact alloc_new _ _ | exact alloc_at _ (alloc_new _ _) | exact second_new _ _ _ | exact hq5);intro v6 w6 hO6 hg6 hn6;obtain ⟨a6,k6,e6⟩:=(own_sl hO6.out).len;subst e6;have hF6:=hid (Fam.app (by first | exact hF5.out | exact hF5.out.alloc _) (i:=3) rfl hO6.out hg6.out hn6.out);have hh6:w6.heap[g]? = some (.cells #[.int .i64 x.t.c,.int .i64 x.t.r,.int .i64 x.pa,.int .i64 x.ch,.string x.nm,.float .f64 x.rk] 49 (0,0)):=fam_other hg6.out (by assumption:_ ∧ _ ∧ _ ∧ Below w1.heap.size w1 _).2.2.1 (fun e' => fam_not (e:=3) (t:=49) (v:=u6) hF'.out (i:=3) rfl hx'.out (by decide) e');have hb6:Below w1.heap.size w1 w6:=(by assumption:_ ∧ _ ∧ _ ∧ Below w1.heap.size w1 _).2.2.2.grown hg6.out (by assumption:_ ∧ _ ∧ _ ∧ Below w1.heap.size w1 _).2.2.2.size (fun j e => ((fam_own (e:=3) (v:=u6) hF'.out (i:=3) rfl).lt _ e).1);have hS6:=cS.out w6 hh6 hb6;have hz6:=hb6.size;have hzg6:=hg6.out.size)))
     all_goals
      go_wp2_with fail
      go_meet
      refine ⟨?_,hid hb6,hid hh6⟩
      have hfin:=hF6.out;simp only [List.length_map,List.length_take,Nat.min_eq_left (Nat.le_of_lt hlt)] at hfin;unfold colL at hfin;simp only [List.set_cons_zero,List.set_cons_succ] at hfin;rw [← hp1.out,← hh1.out] at hfin;exact hid hfin
    case rest =>
     clear hF' hx' hb' hsz0 hxl;obtain ⟨hF',hb',hx'⟩:=hcut
     go_upto_region 12 with fail
     generalize wc = W0 at *;have hsz0:=hb'.out.size;have hxl:=lt_of_block hx'.out
     have cS:∀ W:World,W.heap[g]? = some (.cells #[.int .i64 x.t.c,.int .i64 x.t.r,.int .i64 x.pa,.int .i64 x.ch,.string x.nm,.float .f64 x.rk] 49 (0,0)) → Below w1.heap.size w1 W → W.cell? ⟨g,4,none⟩ = some (.string x.nm) ∧ W.cell? ⟨g,5,none⟩ = some (.float .f64 x.rk) ∧ W.heap[g]? = some (.cells #[.int .i64 x.t.c,.int .i64 x.t.r,.int .i64 x.pa,.int .i64 x.ch,.string x.nm,.float .f64 x.rk] 49 (0,0)) ∧ Below w1.heap.size w1 W:=fun W h1 h2 => ⟨cell_at h1 4,cell_at h1 5,h1,h2⟩
     replace cS:=hid cS
     go_region_held3 (fun W:World => W.cell? ⟨g,4,none⟩ = some (.string x.nm) ∧ W.cell? ⟨g,5,none⟩ = some (.float .f64 x.rk) ∧ W.heap[g]? = some (.cells #[.int .i64 x.t.c,.int .i64 x.t.r,.int .i64 x.pa,.int .i64 x.ch,.string x.nm,.float .f64 x.rk] 49 (0,0)) ∧ Below w1.heap.size w1 W)
      (first | assumption | exact cS.out _ hx'.out hb'.out.drew | exact cS.out _ (alloc_at _ hx'.out) (hb'.out.alloc hsz0 _).drew | exact cS.out _ (alloc_at _ (alloc_at _ hx'.out)) ((hb'.out.alloc hsz0 _).alloc (by simp;omega) _).drew | (refine cS.out _ (alloc_at _ ?_) (Below.alloc ?_ ?_ _) <;> first | assumption | omega | (simp;omega)))
      ((first
        | (refine step_append_near (by rfl) (.tmp 44) (.tmp 47) 163 (by rfl) w1.heap.size 9 i2 _ 1 16 Tryz.underlying163 hi2 hst0 hst1 hst2 rfl (by decide) u8 ((l.take k).map fun m => strC m.nm).length ((l.take k).map fun m => strC m.nm) (by rfl) ?_ _ 1 1 [.string x.nm] (by rfl) rfl ?_ (one_cell (v:=.string x.nm) rfl) (by unfold maxLen;first | omega | (simp;omega)) (by first | omega | (simp;omega)) (by assumption:_ ∧ _ ∧ _ ∧ Below w1.heap.size w1 _).2.2.2.size ?_;(exact fam_own (i:=4) (by first | exact (hF'.out.alloc _).drew | exact ((hF'.out.alloc _).alloc _).drew) rfl);(first | exact alloc_new _ _ | exact alloc_at _ (alloc_new _ _) | exact second_new _ _ _);intro v5 w5 hO5 hg5 hn5;obtain ⟨a5,k5,e5⟩:=(own_sl hO5.out).len;subst e5;have hF5:=hid (Fam.app (by first | exact (hF'.out.alloc _).drew | exact ((hF'.out.alloc _).alloc _).drew) (i:=4) rfl hO5.out hg5.out hn5.out);have hh5:w5.heap[g]? = some (.cells #[.int .i64 x.t.c,.int .i64 x.t.r,.int .i64 x.pa,.int .i64 x.ch,.string x.nm,.float .f64 x.rk] 49 (0,0)):=fam_other hg5.out (by assumption:_ ∧ _ ∧ _ ∧ Below w1.heap.size w1 _).2.2.1 (fun e' => fam_not (e:=9) (t:=49) (v:=u8) hF'.out (i:=4) rfl hx'.out (by decide) e');have hb5:Below w1.heap.size w1 w5:=(by assumption:_ ∧ _ ∧ _ ∧ Below w1.heap.size w1 _).2.2.2.grown hg5.out (by assumption:_ ∧ _ ∧ _ ∧ Below w1.heap.size w1 _).2.2.2.size (fun j e => ((fam_own (e:=9) (v:=u8) hF'.out (i:=4) rfl).lt _ e).1);have hS5:=cS.out w5 hh5 hb5;have hz5:=hb5.size;have hzg5:=hg5.out.size;(first | (have hq5:w5.heap[W0.heap.size + 1]? = some (.cells #[.float .f64 x.rk] 47 (0,0)):=fam_other hg5.out (second_new _ _ _) (fun e => by have:=((fam_own (e:=9) (v:=u8) hF'.out (i:=4) rfl).lt _ e).2;omega)) | (have hq5:w5.heap[W0.heap.size]? = some (.cells #[.float .f64 x.rk] 47 (0,0)):=fam_other hg5.out (alloc_at _ (alloc_new _ _)) (fun e => by have:=((fam_own (e:=9) (v:=u8) hF'.out (i:=4) rfl).lt _ e).2;omega)) | skip))
        | (refine step_append_near (by rfl) (.tmp 49) (.tmp 52) 164 (by rfl) w1.heap.size 47 i3 _ 1 8 Tryz.underlying164 hi3 hv0 hv1 hv2 rfl (by decide) u9 ((l.take k).map fun m => fltC m.rk).length ((l.take k).map fun m => fltC m.rk) (by rfl) ?_ _ 1 1 [.float .f64 x.rk] (by rfl) rfl ?_ (one_cell (v:=.float .f64 x.rk) rfl) (by unfold maxLen;first | omega | (simp;omega)) (by first | omega | (simp;omega)) (by assumption:_ ∧ _ ∧ _ ∧ Below w1.heap.size w1 _).2.2.2.size ?_;(exact fam_own (i:=5) (by first | exact hF5.out | exact hF5.out.alloc _) rfl);(first | exact alloc_new _ _ | exact alloc_at _ (alloc_new _ _) | exact second_new _ _ _ | exact hq5);intro v6 w6 hO6 hg6 hn6;obtain ⟨a6,k6,e6⟩:=(own_sl hO6.out).len;subst e6;have hF6:=hid (Fam.app (by first | exact hF5.out | exact hF5.out.alloc _) (i:=5) rfl hO6.out hg6.out hn6.out);have hh6:w6.heap[g]? = some (.cells #[.int .i64 x.t.c,.int .i64 x.t.r,.int .i64 x.pa,.int .i64 x.ch,.string x.nm,.float .f64 x.rk] 49 (0,0)):=fam_other hg6.out (by assumption:_ ∧ _ ∧ _ ∧ Below w1.heap.size w1 _).2.2.1 (fun e' => fam_not (e:=47) (t:=49) (v:=u9) hF'.out (i:=5) rfl hx'.out (by decide) e');have hb6:Below w1.heap.size w1 w6:=(by assumption:_ ∧ _ ∧ _ ∧ Below w1.heap.size w1 _).2.2.2.grown hg6.out (by assumption:_ ∧ _ ∧ _ ∧ Below w1.heap.size w1 _).2.2.2.size (fun j e => ((fam_own (e:=47) (v:=u9) hF'.out (i:=5) rfl).lt _ e).1);have hS6:=cS.out w6 hh6 hb6;have hz6:=hb6.size;have hzg6:=hg6.out.size)))
     all_goals
      have hfin:=hF6.out;simp only [List.length_map,List.length_take,Nat.min_eq_left (Nat.le_of_lt hlt)] at hfin;unfold colL at hfin;simp only [List.set_cons_zero,List.set_cons_succ] at hfin;rw [← hn1.out,← hk1.out] at hfin;replace hfin:=hid hfin;replace hb6:=hid hb6;clear cS hS6 hh6;go_wp2_with fail
      go_roundw
      case rel => exact ⟨k + 1,by go_num,by omega,hfin,hb6⟩
      case measure => simp [intOf];omega
  ·
   obtain rfl:k = l.length:=by omega
   have hge:¬ ((l.length:Int) < (l.length:Nat)):=by omega
   have e0:=(fam_own hF.out (i:=0) rfl);have e1:=(fam_own hF.out (i:=1) rfl);have e2:=(fam_own hF.out (i:=2) rfl);have e3:=(fam_own hF.out (i:=3) rfl);have e4:=(fam_own hF.out (i:=4) rfl);have e5:=(fam_own hF.out (i:=5) rfl);rw [List.take_length] at e0 e1 e2 e3 e4 e5
   have s0:Is wr u4 (l.map (fun m:Mv => m.t.c)):=by have:=own_sl e0;unfold Is;rw [List.length_map,List.map_map];rw [List.length_map] at this;exact this
   have s1:Us wr u7 (l.map fun m:Mv => m.t.r.toNat):=by have:=own_sl e1;unfold Us;rw [List.length_map,List.map_map];rw [List.length_map] at this;exact this
   have s2:Is wr u5 (l.map (fun m:Mv => m.pa)):=by have:=own_sl e2;unfold Is;rw [List.length_map,List.map_map];rw [List.length_map] at this;exact this
   have s3:Is wr u6 (l.map (fun m:Mv => m.ch)):=by have:=own_sl e3;unfold Is;rw [List.length_map,List.map_map];rw [List.length_map] at this;exact this
   have s4:Strs wr u8 (l.map (fun m:Mv => m.nm)):=by have:=own_sl e4;unfold Strs;rw [List.length_map,List.map_map];rw [List.length_map] at this;exact this
   have s5:Fs wr u9 (l.map (fun m:Mv => m.rk)):=by have:=own_sl e5;unfold Fs;rw [List.length_map,List.map_map];rw [List.length_map] at this;exact this
   have hin:∀ x ∈ l,okT x.t ∧ (1 ≤ x.ch ∧ x.ch ≤ 2147483647 ∧ 0 ≤ x.pa ∧ x.pa ≤ 2147483647 ∧ x.nm.size ≤ 64):=fun x hx => by
    have h:=Fo.oneM_in (HN.out x hx);have h2:=(Fo.oneR_in h.2).1;exact ⟨h.1,h2⟩
   have hm:∀ (f:Mv → Int),(∀ x ∈ l,-9223372036854775808 ≤ f x ∧ f x ≤ 9223372036854775807) → ∀ n ∈ l.map f,IntKind.i64.min ≤ n ∧ n ≤ IntKind.i64.max:=fun f hf n hn => by
    obtain ⟨x,hx,rfl⟩:=List.mem_map.1 hn;exact hf x hx
   have C1:=hid (fun (W:World) => put_any l.length W (by unfold W64;omega));have C2:=hid (fun (W:World) (h:Below wr.heap.size wr W) => Dl.encode_any u4 (l.map (fun m:Mv => m.t.c)) W (is_ints (s0.below h) (hm _ (fun x hx => by have:=(hin x hx).1;unfold okT at this;omega))) (by rw [List.length_map];omega));have C3:=hid (fun (W:World) => part_any (dEnc (l.map (fun m:Mv => m.t.c))) W (by have:=dEnc_len (l.map (fun m:Mv => m.t.c));rw [List.length_map] at this;omega))
   have C4:=hid (fun (W:World) (h:Below wr.heap.size wr W) => Rn.encode_any u7 (l.map fun m:Mv => m.t.r.toNat) W (s1.below h) (by rw [List.length_map];omega) (fun n hn => by
    obtain ⟨x,hx,rfl⟩:=List.mem_map.1 hn;have:=(hin x hx).1;unfold okT at this;unfold W64
    omega))
   have C5:=hid (fun (W:World) (h:Below wr.heap.size wr W) => Dl.encode_any u5 (l.map (fun m:Mv => m.pa)) W (is_ints (s2.below h) (hm _ (fun x hx => by have:=(hin x hx).2;omega))) (by rw [List.length_map];omega));have C6:=hid (fun (W:World) => part_any (dEnc (l.map (fun m:Mv => m.pa))) W (by have:=dEnc_len (l.map (fun m:Mv => m.pa));rw [List.length_map] at this;omega))
   have C7:=hid (fun (W:World) (h:Below wr.heap.size wr W) => Dl.encode_any u6 (l.map (fun m:Mv => m.ch)) W (is_ints (s3.below h) (hm _ (fun x hx => by have:=(hin x hx).2;omega))) (by rw [List.length_map];omega))
   have C8:=hid (fun (W:World) (h:Below wr.heap.size wr W) => Dc.encode_any u8 (l.map (fun m:Mv => m.nm)) W (s4.below h) (by rw [List.length_map];omega) (fun n hn => by
    obtain ⟨x,hx,rfl⟩:=List.mem_map.1 hn;have:=(hin x hx).2
    omega))
   have C9:=hid (fun (W:World) (h:Below wr.heap.size wr W) => putRanks_any u9 (l.map (fun m:Mv => m.rk)) W (s5.below h) (fun n hn => by
    obtain ⟨x,hx,rfl⟩:=List.mem_map.1 hn
    exact HK.out x hx) (by rw [List.length_map];omega))
   have hA:Hid (str (partL (dEnc (l.map (fun m:Mv => m.t.c)))) ++ str (Rn.encRuns (l.map fun m:Mv => m.t.r.toNat)) = str (partL (dEnc (l.map (fun m:Mv => m.t.c))) ++ Rn.encRuns (l.map fun m:Mv => m.t.r.toNat))):=hid (Ck.str_append _ _);have hB:Hid (str (partL (dEnc (l.map (fun m:Mv => m.pa)))) ++ str (dEnc (l.map (fun m:Mv => m.ch))) = str (partL (dEnc (l.map (fun m:Mv => m.pa))) ++ dEnc (l.map (fun m:Mv => m.ch)))):=hid (Ck.str_append _ _)
   have hzA:¬ 9223372036854775807 < (str (partL (dEnc (l.map (fun m:Mv => m.t.c))))).size + (str (Rn.encRuns (l.map fun m:Mv => m.t.r.toNat))).size:=by
    have h1:=dEnc_len (l.map (fun m:Mv => m.t.c));have h2:=Rn.encRuns_len (l.map fun m:Mv => m.t.r.toNat);have h7:=partL_len (dEnc (l.map (fun m:Mv => m.t.c)));rw [List.length_map] at h1 h2;rw [str_size,str_size];omega
   have hzB:¬ 9223372036854775807 < (str (partL (dEnc (l.map (fun m:Mv => m.pa))))).size + (str (dEnc (l.map (fun m:Mv => m.ch)))).size:=by
    have h1:=dEnc_len (l.map (fun m:Mv => m.pa));have h2:=dEnc_len (l.map (fun m:Mv => m.ch));have h7:=partL_len (dEnc (l.map (fun m:Mv => m.pa)));rw [List.length_map] at h1 h2;rw [str_size,str_size];omega
   have hOC:=hid (show opC l = [(4,str (putL l.length)),(5,str (partL (dEnc (l.map (fun m:Mv => m.t.c))) ++ Rn.encRuns (l.map fun m:Mv => m.t.r.toNat))),(6,str (partL (dEnc (l.map (fun m:Mv => m.pa))) ++ dEnc (l.map (fun m:Mv => m.ch)))),(7,str (Dc.encDict (l.map (fun m:Mv => m.nm)))),(8,str (ranksL (l.map (fun m:Mv => m.rk))))] from rfl);have hOk:=hid (opC_ok l hl HN.out);rw [hOC.out] at hOk
   change Hid (∀ (W:World),Below wr.heap.size wr W → Calls _ _ _ _ fun e w' => e = .returned (.string (str (dEnc (l.map (fun m:Mv => m.t.c))))) ∧ _) at C2
   change Hid (∀ (W:World),Below wr.heap.size wr W → Calls _ _ _ _ fun e w' => e = .returned (.string (str (dEnc (l.map (fun m:Mv => m.pa))))) ∧ _) at C5
   change Hid (∀ (W:World),Below wr.heap.size wr W → Calls _ _ _ _ fun e w' => e = .returned (.string (str (dEnc (l.map (fun m:Mv => m.ch))))) ∧ _) at C7
   rw [← hA.out,← hB.out] at hOk hOC;have hwl:IntKind.u64.wrap (l.length:Int) = (l.length:Int):=IntWalk.u64_in _ (by omega);have B0:=hid (Below.refl wr.heap.size wr);have hbw:=hid (b1.out.trans (hb.out.mono b1.out.size));clear e0 e1 e2 e3 e4 e5 s0 s1 s2 s3 s4 s5 hin hm hF hb hA hB;generalize str (partL (dEnc (l.map (fun m:Mv => m.t.c)))) = x3 at *;generalize str (dEnc (l.map (fun m:Mv => m.t.c))) = x2 at *;generalize str (Rn.encRuns (l.map fun m:Mv => m.t.r.toNat)) = x4 at *;generalize str (partL (dEnc (l.map (fun m:Mv => m.pa)))) = x6 at *
   generalize str (dEnc (l.map (fun m:Mv => m.pa))) = x5 at *;generalize str (dEnc (l.map (fun m:Mv => m.ch))) = x7 at *;generalize str (Dc.encDict (l.map (fun m:Mv => m.nm))) = x8 at *;generalize str (ranksL (l.map (fun m:Mv => m.rk))) = x9 at *;generalize str (putL l.length) = x1 at *;go_wp2_with fail;refine (C1.out _).mono ?_
   rintro e z1 ⟨rfl,y1⟩;have B1:=hid (B0.out.trans (y1.mono B0.out.size));clear y1 B0 C1;go_wp2_with fail;refine (C2.out _ B1.out).mono ?_
   rintro e z2 ⟨rfl,y2⟩;have B2:=hid (B1.out.trans (y2.mono B1.out.size));clear y2 B1 C2;go_wp2_with fail;refine (C3.out _).mono ?_
   rintro e z3 ⟨rfl,y3⟩;have B3:=hid (B2.out.trans (y3.mono B2.out.size));clear y3 B2 C3;go_wp2_with fail;refine (C4.out _ B3.out).mono ?_
   rintro e z4 ⟨rfl,y4⟩;have B4:=hid (B3.out.trans (y4.mono B3.out.size));clear y4 B3 C4;go_wp2_with fail;refine (C5.out _ B4.out).mono ?_
   rintro e z5 ⟨rfl,y5⟩;have B5:=hid (B4.out.trans (y5.mono B4.out.size));clear y5 B4 C5;go_wp2_with fail;refine (C6.out _).mono ?_
   rintro e z6 ⟨rfl,y6⟩;have B6:=hid (B5.out.trans (y6.mono B5.out.size));clear y6 B5 C6;go_wp2_with fail;refine (C7.out _ B6.out).mono ?_
   rintro e z7 ⟨rfl,y7⟩;have B7:=hid (B6.out.trans (y7.mono B6.out.size));clear y7 B6 C7;go_wp2_with fail;refine (C8.out _ B7.out).mono ?_
   rintro e z8 ⟨rfl,y8⟩;have B8:=hid (B7.out.trans (y8.mono B7.out.size));clear y8 B7 C8;go_wp2_with fail;refine (C9.out _ B8.out).mono ?_
   rintro e z9 ⟨rfl,y9⟩;have B9:=hid (B8.out.trans (y9.mono B8.out.size));clear y9 B8 C9;go_wp2_with fail;go_ret2;have hbz:=hbw.out.trans (B9.out.mono hbw.out.size);rw [hOC.out];refine ⟨⟨_,rfl,chs_of_block (alloc_new _ _) rfl hOk.out⟩,hbz.alloc ?_ _⟩
   exact hbz.size
end Og
end
section
open Go.RowKit Go.Shelf
namespace Sn
open Mem Tp Tr Mo Pk Og
inductive Col where
 | cnt (n:Nat)
 | ints (l:List Int)
 | rks (l:List Nat)
 | pints (l:List Int)
 | pnms (l:List ByteArray)
def colB:Col → List UInt8
 | .cnt n => putL n
 | .ints l => dEnc l
 | .rks l => ranksL l
 | .pints l => partL (dEnc l)
 | .pnms l => partL (Dc.encDict l)
def IntsOk (l:List Int):Prop:=l.length ≤ 250 ∧ ∀ n ∈ l,-9223372036854775808 ≤ n ∧ n ≤ 9223372036854775807
def ColV (W:World) (u:Value):Col → Prop
 | .cnt n => u = .iface 159 (.int .i64 n) ∧ n ≤ 9223372036854775807
 | .ints l => ∃ v,u = .iface 203 v ∧ Is W v l ∧ IntsOk l
 | .rks l => ∃ v,u = .iface 205 v ∧ Fs W v l ∧ l.length ≤ 250 ∧ ∀ z ∈ l,z < 2 * Fl.S
 | .pints l => ∃ v,u = .iface 207 (.agg #[.iface 203 v]) ∧ Is W v l ∧ IntsOk l
 | .pnms l => ∃ v,u = .iface 207 (.agg #[.iface 204 v]) ∧ Strs W v l ∧ l.length ≤ 250 ∧ ∀ s ∈ l,s.size ≤ 64
theorem ColV.below {W W':World} {u:Value} {c:Col} (h:ColV W u c) (hb:Below W.heap.size W W'):ColV W' u c:=by
 cases c with
 | cnt n => exact h
 | ints l => obtain ⟨v,h1,h2,h3⟩:=h;exact ⟨v,h1,Sl.below h2 hb,h3⟩
 | rks l => obtain ⟨v,h1,h2,h3⟩:=h;exact ⟨v,h1,Sl.below h2 hb,h3⟩
 | pints l => obtain ⟨v,h1,h2,h3⟩:=h;exact ⟨v,h1,Sl.below h2 hb,h3⟩
 | pnms l => obtain ⟨v,h1,h2,h3⟩:=h;exact ⟨v,h1,Sl.below h2 hb,h3⟩
theorem colB_len {W:World} {u:Value} {c:Col} (h:ColV W u c):(colB c).length ≤ 24000:=by
 cases c with
 | cnt n => have:=putL_length n;unfold colB;dsimp only;omega
 | ints l => obtain ⟨v,h1,h2,h3,h4⟩:=h;have:=dEnc_len l;unfold colB;dsimp only;omega
 | rks l => obtain ⟨v,h1,h2,h3,h4⟩:=h;have:=ranksL_len l;unfold colB;dsimp only;omega
 | pints l => obtain ⟨v,h1,h2,h3,h4⟩:=h;have:=dEnc_len l;have:=partL_len (dEnc l);unfold colB;dsimp only;omega
 | pnms l => obtain ⟨v,h1,h2,h3,h4⟩:=h;have:=Dc.encDict_len h4;have:=partL_len (Dc.encDict l);unfold colB;dsimp only;omega
theorem cnt_any (n:Nat) (w:World) (hn:n ≤ 9223372036854775807) :
  Calls Tryz.prog 258 #[.int .i64 n] w fun e w' => e = .returned (.string (str (putL n))) ∧ Below w.heap.size w w':=by
 have HP:=hid (put_any n w (by unfold W64;omega));have hw1:IntKind.u64.wrap (n:Int) = (n:Int):=IntWalk.u64_in _ (by omega);go_enter Tryz.func258,Tryz.ntmps258;go_wp2_with fail;refine HP.out.mono ?_
 rintro e w1 ⟨rfl,b1⟩;replace b1:=hid b1;go_wp2_with fail;go_ret;exact ⟨rfl,b1.out⟩
theorem ints_any (v:Value) (l:List Int) (w:World) (hv:Is w v l) (hl:IntsOk l) :
  Calls Tryz.prog 259 #[v] w fun e w' => e = .returned (.string (str (dEnc l))) ∧ Below w.heap.size w w':=by
 have HP:=hid (Dl.encode_any v l w (is_ints hv hl.2) (by have:=hl.1;omega));go_enter Tryz.func259,Tryz.ntmps259;go_wp2_with fail;refine HP.out.mono ?_
 rintro e w1 ⟨rfl,b1⟩;replace b1:=hid b1;go_wp2_with fail;go_ret;exact ⟨rfl,b1.out⟩
theorem names_any (v:Value) (l:List ByteArray) (w:World) (hv:Strs w v l) (hl:l.length ≤ 250) (hs:∀ s ∈ l,s.size ≤ 64) :
  Calls Tryz.prog 260 #[v] w fun e w' => e = .returned (.string (str (Dc.encDict l))) ∧ Below w.heap.size w w':=by
 have HP:=hid (Dc.encode_any v l w hv (by omega) (fun s h => by have:=hs s h;omega));go_enter Tryz.func260,Tryz.ntmps260;go_wp2_with fail;refine HP.out.mono ?_
 rintro e w1 ⟨rfl,b1⟩;replace b1:=hid b1;go_wp2_with fail;go_ret;exact ⟨rfl,b1.out⟩
theorem ranks_any (v:Value) (l:List Nat) (w:World) (hv:Fs w v l) (hl:l.length ≤ 250) (hs:∀ z ∈ l,z < 2 * Fl.S) :
  Calls Tryz.prog 261 #[v] w fun e w' => e = .returned (.string (str (ranksL l))) ∧ Below w.heap.size w w':=by
 have HP:=hid (putRanks_any v l w hv hs (by omega));go_enter Tryz.func261,Tryz.ntmps261;go_wp2_with fail;refine HP.out.mono ?_
 rintro e w1 ⟨rfl,b1⟩;replace b1:=hid b1;go_wp2_with fail;go_ret;exact ⟨rfl,b1.out⟩
theorem inv_cnt (x:Value) (w:World):(method 442 159 x "bonsai/snap.bytes").run Tryz.prog w = .ok (258,x) w:=by kernel_rfl
theorem inv_ints (x:Value) (w:World):(method 442 203 x "bonsai/snap.bytes").run Tryz.prog w = .ok (259,x) w:=by kernel_rfl
theorem inv_names (x:Value) (w:World):(method 442 204 x "bonsai/snap.bytes").run Tryz.prog w = .ok (260,x) w:=by kernel_rfl
theorem inv_ranks (x:Value) (w:World):(method 442 205 x "bonsai/snap.bytes").run Tryz.prog w = .ok (261,x) w:=by kernel_rfl
theorem inv_part (x:Value) (w:World):(method 442 207 x "bonsai/snap.bytes").run Tryz.prog w = .ok (262,x) w:=by kernel_rfl
attribute [local go_sem] inv_cnt inv_ints inv_names inv_ranks inv_part
theorem pints_any (v:Value) (l:List Int) (w:World) (hv:Is w v l) (hl:IntsOk l) :
  Calls Tryz.prog 262 #[.agg #[.iface 203 v]] w fun e w' => e = .returned (.string (str (partL (dEnc l)))) ∧ Below w.heap.size w w':=by
 have hb0:=(Below.refl w.heap.size w).alloc (Nat.le_refl _) (.cells #[.iface 203 v] 207);have HP:=hid (ints_any v l _ (hv.below hb0) hl);have HQ:=hid (fun W => part_any (dEnc l) W (by have:=dEnc_len l;have:=hl.1;omega));replace hb0:=hid hb0;go_enter Tryz.func262,Tryz.ntmps262;go_wp2_with fail;refine HP.out.mono ?_
 rintro e w1 ⟨rfl,b1⟩;replace b1:=hid (hb0.out.trans (b1.mono (by simp)));clear HP;go_wp2_with fail;refine (HQ.out _).mono ?_
 rintro e w2 ⟨rfl,b2⟩;replace b2:=hid (b1.out.trans (b2.mono b1.out.size));go_wp2_with fail;go_ret;exact ⟨rfl,b2.out⟩
theorem pnms_any (v:Value) (l:List ByteArray) (w:World) (hv:Strs w v l) (hl:l.length ≤ 250) (hs:∀ s ∈ l,s.size ≤ 64) :
  Calls Tryz.prog 262 #[.agg #[.iface 204 v]] w fun e w' => e = .returned (.string (str (partL (Dc.encDict l)))) ∧ Below w.heap.size w w':=by
 have hb0:=(Below.refl w.heap.size w).alloc (Nat.le_refl _) (.cells #[.iface 204 v] 207);have HP:=hid (names_any v l _ (hv.below hb0) hl hs);have HQ:=hid (fun W => part_any (Dc.encDict l) W (by have:=Dc.encDict_len hs;omega));replace hb0:=hid hb0;go_enter Tryz.func262,Tryz.ntmps262;go_wp2_with fail;refine HP.out.mono ?_
 rintro e w1 ⟨rfl,b1⟩;replace b1:=hid (hb0.out.trans (b1.mono (by simp)));clear HP;go_wp2_with fail;refine (HQ.out _).mono ?_
 rintro e w2 ⟨rfl,b2⟩;replace b2:=hid (b1.out.trans (b2.mono b1.out.size));go_wp2_with fail;go_ret;exact ⟨rfl,b2.out⟩
theorem col_call {W:World} {u:Value} {c:Col} (h:ColV W u c):∃ t x f,u = .iface t x ∧ (∀ w,(method 442 t x "bonsai/snap.bytes").run Tryz.prog w = .ok (f,x) w) ∧ (∀ w,(callFunc f #[x]).run Tryz.prog w = .ok (.enter f #[x]) w) ∧
  Calls Tryz.prog f #[x] W fun e w' => e = .returned (.string (str (colB c))) ∧ Below W.heap.size W w':=by
 cases c with
 | cnt n => obtain ⟨rfl,h2⟩:=h;exact ⟨_,_,_,rfl,fun w => inv_cnt _ w,fun w => by simp [go_sem],cnt_any n W h2⟩
 | ints l => obtain ⟨v,rfl,h2,h3⟩:=h;exact ⟨_,_,_,rfl,fun w => inv_ints _ w,fun w => by simp [go_sem],ints_any v l W h2 h3⟩
 | rks l => obtain ⟨v,rfl,h2,h3,h4⟩:=h;exact ⟨_,_,_,rfl,fun w => inv_ranks _ w,fun w => by simp [go_sem],ranks_any v l W h2 h3 h4⟩
 | pints l => obtain ⟨v,rfl,h2,h3⟩:=h;exact ⟨_,_,_,rfl,fun w => inv_part _ w,fun w => by simp [go_sem],pints_any v l W h2 h3⟩
 | pnms l => obtain ⟨v,rfl,h2,h3,h4⟩:=h;exact ⟨_,_,_,rfl,fun w => inv_part _ w,fun w => by simp [go_sem],pnms_any v l W h2 h3 h4⟩
def colsB (cs:List Col):List UInt8:=cs.flatMap colB
theorem put_ok (b n:Nat) (us:List Value) (cs:List Col) (w:World) (hn:us.length = n) (hc:cs.length = n) (hn5:n ≤ 3 + 2) (hb:w.heap[b]? = some (.cells us.toArray 202 (0,0))) (h:∀ (k:Nat) u c,us[k]? = some u → cs[k]? = some c → ColV w u c) :
  Calls Tryz.prog 91 #[.slice (some ⟨b,0,none⟩) n n] w fun e w' => e = .returned (.string (str (colsB cs))) ∧ Below w.heap.size w w':=by
 have hlt:=lt_of_block hb;have HB:=hid hb;have HC:=hid h;have hN:=hid hn;have hM:=hid hc;clear hb h hn hc;go_enter Tryz.func91,Tryz.ntmps91;go_wp2_with fail
 go_loopw [8] (fun i wr => ∃ k:Nat,i = .int .i64 k ∧ k ≤ n ∧ Hid (Ck.BAt w (colsB (cs.take k)) wr) ∧ Hid ((colsB (cs.take k)).length ≤ 24000 * k)) (fun i _ => n - (intOf i).toNat)
 case atStart => exact ⟨0,rfl,by omega,hid (Ck.BAt.start w),hid (by simp [colsB])⟩
 case round =>
  obtain ⟨k,rfl,hk,hB,hlen⟩:=hrel;have hlen':=hlen.out
  by_cases hlt2:k < n
  ·have hlt':(k:Int) < (n:Nat):=by omega
   obtain ⟨u,hu⟩:=some_at (show k < us.length by rw [hN.out];exact hlt2);obtain ⟨c,hcc⟩:=some_at (show k < cs.length by rw [hM.out];exact hlt2);have hV:=(HC.out k u c hu hcc).below (hB.out.bel);have hcl:=colB_len hV;have hq:wr.cell? ⟨b,k,none⟩ = some u:=block_cells (below_at hB.out.bel HB.out hlt) k u (by simpa using hu);obtain ⟨t,x,f,rfl,hm,hf,hCall⟩:=col_call hV;have hnx:Hid (colsB (cs.take (k + 1)) = colsB (cs.take k) ++ colB c):=hid (by unfold colsB;rw [take_snoc hcc];simp);replace hCall:=hid hCall;clear hu hcc hV hlen
   generalize colsB (cs.take k) = acc at *;go_wp2_with fail;refine hCall.out.mono ?_
   rintro e w1 ⟨rfl,b1⟩;have hB1:=hid (hB.out.below b1);clear b1 hB hCall hm hf;go_wp2_with fail;refine (Ck.w_str hB1.out (str (colB c)) (by omega) (by rw [str_size];omega)).mono ?_
   rintro e w5 ⟨rfl,hB5⟩;rw [str_data,← hnx.out] at hB5;replace hB5:=hid hB5;have hl5:=hid (show (colsB (cs.take (k + 1))).length ≤ 24000 * (k + 1) by rw [hnx.out,List.length_append];omega);go_wp2_with fail
   go_roundw
   case rel => exact ⟨k + 1,by go_num,by omega,hB5,hl5⟩
   case measure => simp [intOf];omega
  ·obtain rfl:k = n:=by omega
   have hge:¬ ((k:Int) < (k:Nat)):=by omega
   rw [List.take_of_length_le (by rw [hM.out];exact Nat.le_refl _)] at hB;go_wp2_with fail;refine (Ck.b_string hB.out).mono ?_
   rintro e w6 ⟨rfl,hb6⟩;go_wp2_with fail;go_ret;exact ⟨rfl,hb6⟩
end Sn
end
section
open Go.RowKit
namespace Dl
open Mem Pk
def rdInts:Nat → ByteArray → Int → List Int × ByteArray × Int
 | 0,s,e => ([],s,e)
 | k + 1,s,e => (zagI (numN s e) :: (rdInts k (rest s (numK s e)) (numE s e)).1,(rdInts k (rest s (numK s e)) (numE s e)).2)
def decL (s:ByteArray) (n:Int):List Int:=
 if n < 0 then [] else if (s.size:Int) < n then [] else if doneE (rdInts n.toNat s 0).2.1 (rdInts n.toNat s 0).2.2 = 0 then sums 0 (rdInts n.toNat s 0).1 else []
def decE (s:ByteArray) (n:Int):Int:=
 if n < 0 then 1 else if (s.size:Int) < n then 2 else doneE (rdInts n.toNat s 0).2.1 (rdInts n.toNat s 0).2.2
structure RdAt (s:ByteArray) (N k:Nat) (t:ByteArray) (e:Int) (out:List Int):Prop where
 eq:rdInts N s 0 = (out ++ (rdInts (N - k) t e).1,(rdInts (N - k) t e).2)
 len:out.length = k
 size:t.size ≤ s.size
 bound:∀ n ∈ out,I64 n
theorem RdAt.start (s:ByteArray) (N:Nat):RdAt s N 0 s 0 []:=⟨rfl,rfl,Nat.le_refl _,fun _ h => by simp at h⟩
theorem RdAt.next {s t:ByteArray} {N k:Nat} {e:Int} {out:List Int} (h:RdAt s N k t e out) (hk:k < N):RdAt s N (k + 1) (rest t (numK t e)) (numE t e) (out ++ [zagI (numN t e)]):=by
 have hN:N - k = (N - (k + 1)) + 1:=by omega
 refine ⟨?_,by rw [List.length_append,h.len];rfl,?_,fun n hn => ?_⟩
 ·rw [h.eq,hN,rdInts,List.append_assoc];rfl
 ·rw [rest_size];have:=h.size;omega
 ·rw [List.mem_append,List.mem_singleton] at hn
  rcases hn with hn | rfl
  ·exact h.bound n hn
  ·exact zag_bounds (numN_lt t e)
theorem RdAt.whole {s t:ByteArray} {N:Nat} {e:Int} {out:List Int} (h:RdAt s N N t e out):rdInts N s 0 = (out,t,e):=by
 rw [h.eq,Nat.sub_self,rdInts,List.append_nil]
theorem ownI_kept {T:Nat → Prop} {w w':World} {B:Nat} {v:Value} {l:List Int} (k:Kept T w w') (h:OwnI w B v l) (hT:∀ k,B ≤ k → ¬ T k):OwnI w' B v l:=by
 refine ⟨h.1,?_⟩
 rcases h.2 with h2 | ⟨g,cap,cur,ev,hg,hh,r⟩
 ·exact .inl h2
 ·exact .inr ⟨g,cap,cur,ev,hg,k.at hh (hT g hg),r⟩
theorem decode_any (s:ByteArray) (n:Int) (w:World) (hs:s.size ≤ 10000) :
  Calls Tryz.prog 153 #[.string s,.int .i64 n] w fun e w' => (∃ r,e = .returned (.tuple #[r,.int .i64 (decE s n)]) ∧ Opened.Ints .i64 w' r (decL s n)) ∧ Below w.heap.size w w':=by
 obtain ⟨i0,hi,hz0,hz1,hz2⟩:=info_parts infoI
 by_cases h0:n < 0
 ·have hE:Hid (decE s n = 1 ∧ decL s n = []):=hid (by unfold decE decL;rw [if_pos h0,if_pos h0];exact ⟨rfl,rfl⟩)
  have hd:decide (n < 0) = true:=decide_eq_true h0;clear h0;go_enter Tryz.func153,Tryz.ntmps153;go_wp2_with fail;go_ret2;exact ⟨⟨.slice none 0 0,by rw [hE.out.1];rfl,by rw [hE.out.2];exact ints_nil _ _⟩,Below.refl _ _⟩
 ·have hd:decide (n < 0) = false:=decide_eq_false h0
  by_cases h1:(s.size:Int) < n
  ·have hE:Hid (decE s n = 2 ∧ decL s n = []):=hid (by unfold decE decL;rw [if_neg h0,if_neg h0,if_pos h1,if_pos h1];exact ⟨rfl,rfl⟩)
   have hd1:decide ((s.size:Int) < n) = true:=decide_eq_true h1;have hd2:decide (n > (s.size:Int)) = true:=decide_eq_true h1;clear h0 h1;go_enter Tryz.func153,Tryz.ntmps153;go_wp2_with fail;go_ret2;exact ⟨⟨.slice none 0 0,by rw [hE.out.1];rfl,by rw [hE.out.2];exact ints_nil _ _⟩,Below.refl _ _⟩
  ·have hEL:Hid (decE s n = doneE (rdInts n.toNat s 0).2.1 (rdInts n.toNat s 0).2.2 ∧ decL s n = if doneE (rdInts n.toNat s 0).2.1 (rdInts n.toNat s 0).2.2 = 0 then sums 0 (rdInts n.toNat s 0).1 else []):=hid (by unfold decE decL;rw [if_neg h0,if_neg h0,if_neg h1,if_neg h1];exact ⟨rfl,rfl⟩)
   have hd1:decide ((s.size:Int) < n) = false:=decide_eq_false h1;have hd2:decide (n > (s.size:Int)) = false:=decide_eq_false h1;obtain ⟨N,rfl⟩:∃ N:Nat,n = (N:Int):=⟨n.toNat,by omega⟩
   have hN:N ≤ s.size:=by omega
   rw [Int.toNat_natCast] at hEL;clear h0 h1;go_enter Tryz.func153,Tryz.ntmps153;go_wp2_with fail;refine (new_any s _).mono ?_
   rintro e w' ⟨rfl,rfl⟩;go_wp2_with fail;have hA:=alloc_new w (rd s 0);have hb0:Below w.heap.size w (w.alloc (rd s 0)):=(Below.refl _ w).alloc (Nat.le_refl _) _
   have hz0':(w.alloc (rd s 0)).heap.size = w.heap.size + 1:=by simp
   change Code.wp _ _ _ _ (w.alloc (rd s 0))
   generalize w.alloc (rd s 0) = w0 at *;clear hd hd1 hd2
   go_loopw [7,20] (fun v i wr => ∃ (k:Nat) (t:ByteArray) (e:Int) (out:List Int),i = .int .i64 k ∧ k ≤ N ∧ Hid (RdAt s N k t e out) ∧ Hid (wr.heap[w.heap.size]? = some (rd t e)) ∧ Hid (OwnI wr (w.heap.size + 1) v out) ∧ Below w.heap.size w wr ∧ w.heap.size + 1 ≤ wr.heap.size) (fun _ i _ => N - (intOf i).toNat)
   case atStart => exact ⟨0,s,0,[],rfl,by omega,hid (RdAt.start s N),hid hA,hid (ownI_nil _ _),hb0,by omega⟩
   case round =>
    obtain ⟨k,t,e,out,rfl,hk,hR,hH,hO,hb,hz⟩:=hrel
    by_cases hlt:k < N
    ·have hlt':(k:Int) < (N:Int):=by omega
     have hnx:=hid (hR.out.next hlt);have hlen:=hR.out.len;have hts:=hR.out.size;clear hlt hR;have HI:=hid (int_any w.heap.size t e wr hH.out (by omega));generalize zagI (numN t e) = c at *;generalize rest t (numK t e) = t2 at *;generalize numE t e = e2 at *;go_wp2_with fail;refine HI.out.mono ?_
     rintro e' w1 ⟨rfl,k1,k2⟩;have hO1:w1.ownsRow (w.heap.size + 1) 3 1 _ out.length (cellsI out):=ownI_kept k2 hO.out (fun k hk h => by subst h;omega);have hs1:=k2.size;have hb1:=hb.trans (k2.to_below (B:=w.heap.size) hb.size (fun k hk h => by omega));replace k1:=hid k1;clear hO hH HI k2 hb
     go_wp2_with (at_builtin;refine wpList_append_own _ rfl _ _ 82 rfl (w.heap.size + 1) 3 i0 (.int .i64 0) 1 8 Tryz.underlying82 hi hz0 hz1 hz2 rfl (by decide) _ _ _ rfl (hO1.alloc _) ⟨w1.heap.size,0,none⟩ 1 1 [.int .i64 c] rfl rfl (cell_one_new _ _ _) (one_int _) (by unfold maxLen;omega) (by omega) (by simp;omega) ?_;intro v' w3 hown hgrow _)
     have hO2:OwnI w3 (w.heap.size + 1) v' (out ++ [c]):=ownI_snoc hown;have hH3:w3.heap[w.heap.size]? = some (rd t2 e2):=(hgrow.block _ (by simp;omega) (fun e => by have:=(hO1.lt _ e.symm).1;omega)).trans (alloc_at _ k1.out);have hK3:Kept (fun k => w.heap.size + 1 ≤ k) w1 w3:=((Kept.refl _ w1).alloc _).grown hgrow (fun k er _ => (hO1.lt k er).1);have hB:=hb1.trans (hK3.to_below (B:=w.heap.size) hb1.size (fun k hk h => by omega));have hs3:=hK3.size;clear hown hgrow hO1 hK3 k1;go_wp2_with fail
     go_roundw
     case rel => exact ⟨k + 1,t2,e2,_,by go_num,by omega,hnx,hid hH3,hid hO2,hB,by omega⟩
     case measure => simp [intOf];omega
    ·obtain rfl:k = N:=by omega
     have hge:decide (k < k) = false:=decide_eq_false hlt;have hw:=hid hR.out.whole;have hlen:=hR.out.len;have hI:=hid (hO.out.ints hR.out.bound);clear hlt hR hO
     have hEL2:decE s k = doneE t e ∧ decL s k = if doneE t e = 0 then sums 0 out else []:=by
      have h:=hEL.out;rw [hw.out] at h;exact h
     clear hEL
     by_cases hc:doneE t e = 0
     ·rw [hc,if_pos rfl] at hEL2
      have hE:=hid hEL2
      have hne:(doneE t e != 0) = false:=by rw [hc];rfl
      clear hEL2 hc;have HD:=hid (done_any w.heap.size t e wr hH.out);generalize doneE t e = c at *;go_wp2_with fail;refine HD.out.mono ?_
      rintro e' w1 ⟨rfl,rfl⟩;go_wp2_with fail;refine (sums_any _ out _ hI.out (by omega)).mono ?_
      rintro e' w1 ⟨⟨r,rfl,hr⟩,hb2⟩;replace hb2:=hb.trans (hb2.mono hb.size);go_wp2_with fail;go_ret2;refine ⟨⟨r,?_,?_⟩,hb2⟩
      ·rw [hE.out.1];rfl
      ·rw [hE.out.2];exact hr
     ·rw [if_neg hc] at hEL2
      have hE:=hid hEL2
      have hne:(doneE t e != 0) = true:=by rw [bne_iff_ne];exact hc
      clear hEL2 hc;go_wp2_with fail;refine (done_any w.heap.size t e _ hH.out).mono ?_
      rintro e' w1 ⟨rfl,rfl⟩;go_wp2_with fail;go_ret2;refine ⟨⟨.slice none 0 0,?_,?_⟩,hb⟩
      ·rw [hE.out.1];rfl
      ·rw [hE.out.2];exact ints_nil _ _
end Dl
end
section
open Go.RowKit
namespace Dl
open Mem Pk
theorem there_back {a n:Int} (h:I64 n):wrap64 (a + wrap64 (n - a)) = n:=by
 unfold I64 at h;unfold wrap64;omega
theorem sums_subs (l:List Int) (h:∀ n ∈ l,I64 n):∀ a,sums a (subs a l) = l:=by
 induction l with
 | nil => intro a;rfl
 | cons n l ih =>
  intro a;rw [subs,sums,there_back (h n List.mem_cons_self),ih (fun m hm => h m (List.mem_cons_of_mem _ hm))]
theorem head_num {t:ByteArray} {n:Nat} {l:List UInt8} (hn:n < W64) (h:t.data.toList = putL n ++ l):numN t 0 = n ∧ numE t 0 = 0 ∧ (rest t (numK t 0)).data.toList = l:=by
 have e:=read_put hn l;rw [← h] at e;have e1:numN t 0 = (numR t.data.toList).2.1:=rfl;have e2:numE t 0 = (numR t.data.toList).1:=rfl;have e3:numK t 0 = (numR t.data.toList).2.2:=rfl;rw [e1,e2,rest_list,e3,e,h];exact ⟨rfl,rfl,by simp⟩
theorem enc_cons (n:Int) (l:List Int):enc (n :: l) = putL (zigN n) ++ enc l:=by unfold enc;simp
theorem rd_enc (d:List Int) (h:∀ n ∈ d,I64 n) (t:List UInt8):∀ s:ByteArray,s.data.toList = enc d ++ t → ∃ s':ByteArray,rdInts d.length s 0 = (d,s',0) ∧ s'.data.toList = t:=by
 induction d with
 | nil => intro s hs;exact ⟨s,rfl,hs⟩
 | cons n d ih =>
  intro s hs;rw [enc_cons,List.append_assoc] at hs;have hb:=h n List.mem_cons_self;obtain ⟨e1,e2,e3⟩:=head_num (zig_lt hb.1 hb.2) hs;obtain ⟨s',e4,e5⟩:=ih (fun m hm => h m (List.mem_cons_of_mem _ hm)) _ e3;refine ⟨s',?_,e5⟩
  rw [List.length_cons,rdInts,e1,e2,e4,zag_zig]
theorem putL_one (n:Nat):1 ≤ (putL n).length:=putL_pos n
theorem enc_ge (d:List Int):d.length ≤ (enc d).length:=by
 induction d with
 | nil => exact Nat.le_refl _
 | cons n d ih =>
  rw [enc_cons,List.length_append,List.length_cons];have:=putL_one (zigN n);omega
theorem dec_enc {l:List Int} (h:∀ n ∈ l,I64 n):decE (str (enc (subs 0 l))) l.length = 0 ∧ decL (str (enc (subs 0 l))) l.length = l:=by
 obtain ⟨s',e1,e2⟩:=rd_enc (subs 0 l) (subs_bound l 0) [] (str (enc (subs 0 l))) (by rw [str_data,List.append_nil]);rw [subs_length] at e1
 have hz:s'.size = 0:=by rw [← size_list,e2];rfl
 have hd:doneE s' 0 = 0:=by unfold doneE;rw [if_neg (fun h => h.2 hz)]
 have hle:¬ (((str (enc (subs 0 l))).size:Int) < (l.length:Int)):=by
  have:=enc_ge (subs 0 l);rw [subs_length] at this;rw [str_size];omega
 have h0:¬ ((l.length:Int) < 0):=by omega
 unfold decE decL;rw [if_neg h0,if_neg h0,if_neg hle,if_neg hle,Int.toNat_natCast,e1,hd,if_pos rfl,sums_subs l h];exact ⟨rfl,rfl⟩
end Dl
end
section
open Go.RowKit Go.Shelf
attribute [local go_sem] Fl.run_store_float
namespace Sn
open Mem Tp Tr Mo Pk Og
theorem map_map' {α β γ:Type} (f:β → γ) (g:α → β) (l:List α):(l.map g).map f = l.map (fun x => f (g x)):=by rw [List.map_map];rfl
theorem is_of {w:World} {B:Nat} {v:Value} {α:Type} {l:List α} {f:α → Int} (h:w.ownsRow B 3 1 v (l.map fun x => i64C (f x)).length (l.map fun x => i64C (f x))):Is w v (l.map f):=by
 have:=own_sl h;unfold Is;rw [map_map',List.length_map]
 rwa [List.length_map] at this
theorem strs_of {w:World} {B:Nat} {v:Value} {α:Type} {l:List α} {f:α → ByteArray} (h:w.ownsRow B 9 1 v (l.map fun x => strC (f x)).length (l.map fun x => strC (f x))):Strs w v (l.map f):=by
 have:=own_sl h;unfold Strs;rw [map_map',List.length_map]
 rwa [List.length_map] at this
theorem fs_of {w:World} {B:Nat} {v:Value} {α:Type} {l:List α} {f:α → Nat} (h:w.ownsRow B 47 1 v (l.map fun x => fltC (f x)).length (l.map fun x => fltC (f x))):Fs w v (l.map f):=by
 have:=own_sl h;unfold Fs;rw [map_map',List.length_map]
 rwa [List.length_map] at this
theorem ints_ok {α:Type} {l:List α} {f:α → Int} (hl:l.length ≤ 250) (hf:∀ x ∈ l,-9223372036854775808 ≤ f x ∧ f x ≤ 9223372036854775807):IntsOk (l.map f):=
 ⟨by rw [List.length_map];exact hl,fun n hn => by
  obtain ⟨x,hx,rfl⟩:=List.mem_map.1 hn
  exact hf x hx⟩
def colM (l:List Mk) (va vb:Value) (k:Nat):List (TypeId × Value × List Value):=
 [(3,va,(l.take k).map fun m => i64C m.rep),(3,vb,(l.take k).map fun m => i64C m.cnt)]
def colR (l:List Rw) (va vb vn vk:Value) (k1 k2:Nat):List (TypeId × Value × List Value):=
 [(3,va,(l.take k1).map fun m => i64C m.ch),(3,vb,(l.take k1).map fun m => i64C m.pa),(9,vn,(l.take k2).map fun m => strC m.nm),(47,vk,(l.take k2).map fun m => fltC m.rk)]
def marksC (l:List Mk):List Col:=[.cnt l.length,.pints (l.map (·.rep)),.ints (l.map (·.cnt))]
def rowsC (l:List Rw):List Col:=[.cnt l.length,.pints (l.map (·.ch)),.pints (l.map (·.pa)),.pnms (l.map (·.nm)),.rks (l.map (·.rk))]
theorem putMarks_any (v:Value) (l:List Mk) (w:World) (hS:Mem.Mks w v l) (hl:l.length ≤ 250) (hn:∀ x ∈ l,(-9223372036854775808 ≤ x.rep ∧ x.rep ≤ 9223372036854775807) ∧ -9223372036854775808 ≤ x.cnt ∧ x.cnt ≤ 9223372036854775807) :
  Calls Tryz.prog 93 #[v] w fun e w' => e = .returned (.string (str (colsB (marksC l)))) ∧ Below w.heap.size w w':=by
 obtain ⟨i0,hi,hz0,hz1,hz2⟩:=info_parts Mr.infoInt;obtain ⟨a,c,rfl⟩:=hS.len;have HS:=hid hS;have HN:=hid hn;have hF0:=hid (Fam.nil w w.heap.size [3,3]);clear hS hn;go_enter Tryz.func93,Tryz.ntmps93;go_wp2_with fail
 go_loopw [3,4,9] (fun va vb i wr => ∃ k:Nat,i = .int .i64 k ∧ k ≤ l.length ∧ Hid (Fam wr w.heap.size (colM l va vb k)) ∧ Hid (Below w.heap.size w wr)) (fun _ _ i _ => l.length - (intOf i).toNat)
 case atStart => exact ⟨0,rfl,by omega,hF0,hid (Below.refl _ _)⟩
 case round =>
  clear hF0;obtain ⟨k,rfl,hk,hF,hb⟩:=hrel
  by_cases hlt:k < l.length
  ·have hlt':(k:Int) < (l.length:Nat):=by omega
   obtain ⟨x,hx⟩:=some_at hlt;obtain ⟨b,off,rfl⟩:=HS.out.addr (by omega);obtain ⟨q0,q1⟩:=mk_at (HS.out.below hb.out) rfl hx;have hsz:=hb.out.size
   have hp1:(l.take (k + 1)).map (fun m => i64C m.rep) = (l.take k).map (fun m => i64C m.rep) ++ [.int .i64 x.rep]:=by rw [take_snoc hx,map_snoc];rfl
   have hh1:(l.take (k + 1)).map (fun m => i64C m.cnt) = (l.take k).map (fun m => i64C m.cnt) ++ [.int .i64 x.cnt]:=by rw [take_snoc hx,map_snoc];rfl
   replace hp1:=hid hp1;replace hh1:=hid hh1;have hF':=hid (hF.out.alloc (.cells #[.int .i64 x.rep,.int .i64 x.cnt] 112));have hx':=hid (alloc_new wr (.cells #[.int .i64 x.rep,.int .i64 x.cnt] 112));have hb':=hid (hb.out.alloc hsz (.cells #[.int .i64 x.rep,.int .i64 x.cnt] 112));clear hx hF hb
   go_upto_region 5 with fail
   obtain ⟨W0,hW0⟩:∃ W0,wr.alloc (.cells #[.int .i64 x.rep,.int .i64 x.cnt] 112) = W0:=⟨_,rfl⟩;rw [hW0] at hF' hx' hb' ⊢;clear hW0;have hsz0:=hb'.out.size;have hxl:=lt_of_block hx'.out;generalize wr.heap.size = g at *
   have cS:∀ W:World,W.heap[g]? = some (.cells #[.int .i64 x.rep,.int .i64 x.cnt] 112 (0,0)) → Below w.heap.size w W → W.cell? ⟨g,0,none⟩ = some (.int .i64 x.rep) ∧ W.cell? ⟨g,1,none⟩ = some (.int .i64 x.cnt) ∧ W.heap[g]? = some (.cells #[.int .i64 x.rep,.int .i64 x.cnt] 112 (0,0)) ∧ Below w.heap.size w W:=fun W h1 h2 => ⟨cell_at h1 0,cell_at h1 1,h1,h2⟩
   replace cS:=hid cS
   go_region_held3 (fun W:World => W.cell? ⟨g,0,none⟩ = some (.int .i64 x.rep) ∧ W.cell? ⟨g,1,none⟩ = some (.int .i64 x.cnt) ∧ W.heap[g]? = some (.cells #[.int .i64 x.rep,.int .i64 x.cnt] 112 (0,0)) ∧ Below w.heap.size w W)
    (first | assumption | exact cS.out _ hx'.out hb'.out.drew | exact cS.out _ (alloc_at _ hx'.out) (hb'.out.alloc hsz0 _).drew | exact cS.out _ (alloc_at _ (alloc_at _ hx'.out)) ((hb'.out.alloc hsz0 _).alloc (by simp;omega) _).drew | (refine cS.out _ (alloc_at _ ?_) (Below.alloc ?_ ?_ _) <;> first | assumption | omega | (simp;omega)))
    ((first
      | (refine step_append_near (by rfl) (.tmp 13) (.tmp 16) 203 (by rfl) w.heap.size 3 i0 _ 1 8 Tryz.underlying203 hi hz0 hz1 hz2 rfl (by decide) u3 ((l.take k).map fun m => i64C m.rep).length ((l.take k).map fun m => i64C m.rep) (by rfl) ?_ _ 1 1 [.int .i64 x.rep] (by rfl) rfl ?_ (one_cell (v:=.int .i64 x.rep) rfl) (by unfold maxLen;first | omega | (simp;omega)) (by first | omega | (simp;omega)) (by assumption:_ ∧ _ ∧ _ ∧ Below w.heap.size w _).2.2.2.size ?_;(exact fam_own (i:=0) (by first | exact (hF'.out.alloc _).drew | exact ((hF'.out.alloc _).alloc _).drew) rfl);(first | exact alloc_new _ _ | exact alloc_at _ (alloc_new _ _) | exact second_new _ _ _);intro v5 w5 hO5 hg5 hn5;obtain ⟨a5,k5,e5⟩:=(own_sl hO5.out).len;subst e5;have hF5:=hid (Fam.app (by first | exact (hF'.out.alloc _).drew | exact ((hF'.out.alloc _).alloc _).drew) (i:=0) rfl hO5.out hg5.out hn5.out);have hh5:w5.heap[g]? = some (.cells #[.int .i64 x.rep,.int .i64 x.cnt] 112 (0,0)):=fam_other hg5.out (by assumption:_ ∧ _ ∧ _ ∧ Below w.heap.size w _).2.2.1 (fun e' => fam_not (e:=3) (t:=112) (v:=u3) hF'.out (i:=0) rfl hx'.out (by decide) e');have hb5:Below w.heap.size w w5:=(by assumption:_ ∧ _ ∧ _ ∧ Below w.heap.size w _).2.2.2.grown hg5.out (by assumption:_ ∧ _ ∧ _ ∧ Below w.heap.size w _).2.2.2.size (fun j e => ((fam_own (e:=3) (v:=u3) hF'.out (i:=0) rfl).lt _ e).1);have hS5:=cS.out w5 hh5 hb5;have hz5:=hb5.size;have hzg5:=hg5.out.size;(first | (have hq5:w5.heap[W0.heap.size + 1]? = some (.cells #[.int .i64 x.cnt] 3 (0,0)):=fam_other hg5.out (second_new _ _ _) (fun e => by have:=((fam_own (e:=3) (v:=u3) hF'.out (i:=0) rfl).lt _ e).2;omega)) | (have hq5:w5.heap[W0.heap.size]? = some (.cells #[.int .i64 x.cnt] 3 (0,0)):=fam_other hg5.out (alloc_at _ (alloc_new _ _)) (fun e => by have:=((fam_own (e:=3) (v:=u3) hF'.out (i:=0) rfl).lt _ e).2;omega)) | skip))
      | (refine step_append_near (by rfl) (.tmp 18) (.tmp 21) 203 (by rfl) w.heap.size 3 i0 _ 1 8 Tryz.underlying203 hi hz0 hz1 hz2 rfl (by decide) u4 ((l.take k).map fun m => i64C m.cnt).length ((l.take k).map fun m => i64C m.cnt) (by rfl) ?_ _ 1 1 [.int .i64 x.cnt] (by rfl) rfl ?_ (one_cell (v:=.int .i64 x.cnt) rfl) (by unfold maxLen;first | omega | (simp;omega)) (by first | omega | (simp;omega)) (by assumption:_ ∧ _ ∧ _ ∧ Below w.heap.size w _).2.2.2.size ?_;(exact fam_own (i:=1) (by first | exact hF5.out | exact hF5.out.alloc _) rfl);(first | exact alloc_new _ _ | exact alloc_at _ (alloc_new _ _) | exact second_new _ _ _ | exact hq5);intro v6 w6 hO6 hg6 hn6;obtain ⟨a6,k6,e6⟩:=(own_sl hO6.out).len;subst e6;have hF6:=hid (Fam.app (by first | exact hF5.out | exact hF5.out.alloc _) (i:=1) rfl hO6.out hg6.out hn6.out);have hh6:w6.heap[g]? = some (.cells #[.int .i64 x.rep,.int .i64 x.cnt] 112 (0,0)):=fam_other hg6.out (by assumption:_ ∧ _ ∧ _ ∧ Below w.heap.size w _).2.2.1 (fun e' => fam_not (e:=3) (t:=112) (v:=u4) hF'.out (i:=1) rfl hx'.out (by decide) e');have hb6:Below w.heap.size w w6:=(by assumption:_ ∧ _ ∧ _ ∧ Below w.heap.size w _).2.2.2.grown hg6.out (by assumption:_ ∧ _ ∧ _ ∧ Below w.heap.size w _).2.2.2.size (fun j e => ((fam_own (e:=3) (v:=u4) hF'.out (i:=1) rfl).lt _ e).1);have hS6:=cS.out w6 hh6 hb6;have hz6:=hb6.size;have hzg6:=hg6.out.size)))
   all_goals
    have hfin:=hF6.out;simp only [List.length_map,List.length_take,Nat.min_eq_left (Nat.le_of_lt hlt)] at hfin;unfold colM at hfin;simp only [List.set_cons_zero,List.set_cons_succ] at hfin;rw [← hp1.out,← hh1.out] at hfin;replace hfin:=hid hfin;replace hb6:=hid hb6;clear cS hS6 hh6;go_wp2_with fail
    go_roundw
    case rel => exact ⟨k + 1,by go_num,by omega,hfin,hb6⟩
    case measure => simp [intOf];omega
  ·obtain rfl:k = l.length:=by omega
   have hge:¬ ((l.length:Int) < (l.length:Nat)):=by omega
   have e0:=(fam_own hF.out (i:=0) rfl);have e1:=(fam_own hF.out (i:=1) rfl);rw [List.take_length] at e0 e1;have s0:=is_of e0;have s1:=is_of e1;have o0:IntsOk (l.map (fun m:Mk => m.rep)):=ints_ok hl (fun x hx => (HN.out x hx).1);have o1:IntsOk (l.map (fun m:Mk => m.cnt)):=ints_ok hl (fun x hx => (HN.out x hx).2)
   have HP:=hid (fun (W:World) (h:Below wr.heap.size wr W) (b:Nat) (hb:W.heap[b]? = some (.cells [Value.iface 159 (.int .i64 (l.length:Nat)),.iface 207 (.agg #[.iface 203 u3]),.iface 203 u4].toArray 202 (0,0))) =>
    put_ok b 3 _ (marksC l) W rfl rfl (by decide) hb (fun k u c hu hc => by
     match k,hu,hc with
     | 0,hu,hc => cases hu;cases hc;exact ⟨rfl,by omega⟩
     | 1,hu,hc => cases hu;cases hc;exact ⟨_,rfl,s0.below h,o0⟩
     | 2,hu,hc => cases hu;cases hc;exact ⟨_,rfl,s1.below h,o1⟩
     | k + 3,hu,hc => simp at hu))
   clear e0 e1 s0 s1 o0 o1 hF;go_wp2_with fail;refine (HP.out _ ((Below.refl _ _).alloc (Nat.le_refl _) _) _ (alloc_new _ _)).mono ?_
   rintro e w2 ⟨rfl,b2⟩;have b3:=hid (hb.out.trans (((Below.refl wr.heap.size wr).alloc (Nat.le_refl _) (.cells #[Value.iface 159 (.int .i64 (l.length:Nat)),.iface 207 (.agg #[.iface 203 u3]),.iface 203 u4] 202)).trans (b2.mono (by simp)) |>.mono hb.out.size));clear b2;go_wp2_with fail;go_ret;exact ⟨rfl,b3.out⟩
theorem putRows_any (v:Value) (l:List Rw) (w:World) (hS:Mem.Rows w v l) (hl:l.length ≤ 250) (hn:∀ x ∈ l,oneR x = true) (hk:∀ x ∈ l,x.rk < 2 * Fl.S) :
  Calls Tryz.prog 92 #[v] w fun e w' => e = .returned (.string (str (colsB (rowsC l)))) ∧ Below w.heap.size w w':=by
 obtain ⟨i0,hi,hz0,hz1,hz2⟩:=info_parts Mr.infoInt;obtain ⟨i2,hi2,hst0,hst1,hst2⟩:=info_parts infoS;obtain ⟨i3,hi3,hv0,hv1,hv2⟩:=info_parts Rl.infoF;obtain ⟨a,c,rfl⟩:=hS.len;have HS:=hid hS;have HN:=hid hn;have HK:=hid hk;have hF0:=hid (Fam.nil w w.heap.size [3,3,9,47]);clear hS hn hk;go_enter Tryz.func92,Tryz.ntmps92;go_wp2_with fail
 go_loopw [3,4,5,6,11] (fun va vb vn vk i wr => ∃ k:Nat,i = .int .i64 k ∧ k ≤ l.length ∧ Hid (Fam wr w.heap.size (colR l va vb vn vk k k)) ∧ Hid (Below w.heap.size w wr)) (fun _ _ _ _ i _ => l.length - (intOf i).toNat)
 case atStart => exact ⟨0,rfl,by omega,hF0,hid (Below.refl _ _)⟩
 case round =>
  clear hF0;obtain ⟨k,rfl,hk,hF,hb⟩:=hrel
  by_cases hlt:k < l.length
  ·have hlt':(k:Int) < (l.length:Nat):=by omega
   obtain ⟨x,hx⟩:=some_at hlt;obtain ⟨b,off,rfl⟩:=HS.out.addr (by omega);obtain ⟨q0,q1,q2,q3⟩:=row_at (HS.out.below hb.out) rfl hx;have hsz:=hb.out.size
   have hp1:(l.take (k + 1)).map (fun m => i64C m.ch) = (l.take k).map (fun m => i64C m.ch) ++ [.int .i64 x.ch]:=by rw [take_snoc hx,map_snoc];rfl
   have hh1:(l.take (k + 1)).map (fun m => i64C m.pa) = (l.take k).map (fun m => i64C m.pa) ++ [.int .i64 x.pa]:=by rw [take_snoc hx,map_snoc];rfl
   have hn1:(l.take (k + 1)).map (fun m => strC m.nm) = (l.take k).map (fun m => strC m.nm) ++ [.string x.nm]:=by rw [take_snoc hx,map_snoc];rfl
   have hk1:(l.take (k + 1)).map (fun m => fltC m.rk) = (l.take k).map (fun m => fltC m.rk) ++ [.float .f64 x.rk]:=by rw [take_snoc hx,map_snoc];rfl
   replace hp1:=hid hp1;replace hh1:=hid hh1;replace hn1:=hid hn1;replace hk1:=hid hk1;have hF':=hid (hF.out.alloc (.cells #[.int .i64 x.ch,.int .i64 x.pa,.string x.nm,.float .f64 x.rk] 96));have hx':=hid (alloc_new wr (.cells #[.int .i64 x.ch,.int .i64 x.pa,.string x.nm,.float .f64 x.rk] 96));have hb':=hid (hb.out.alloc hsz (.cells #[.int .i64 x.ch,.int .i64 x.pa,.string x.nm,.float .f64 x.rk] 96));clear hx hF hb
   go_upto_region 7 with fail
   obtain ⟨W0,hW0⟩:∃ W0,wr.alloc (.cells #[.int .i64 x.ch,.int .i64 x.pa,.string x.nm,.float .f64 x.rk] 96) = W0:=⟨_,rfl⟩;rw [hW0] at hF' hx' hb' ⊢;clear hW0;have hsz0:=hb'.out.size;have hxl:=lt_of_block hx'.out;generalize wr.heap.size = g at *
   go_cut [3,4] (fun v3 v4 wx => Hid (Fam wx w.heap.size (colR l v3 v4 u5 u6 (k + 1) k)) ∧ Hid (Below w.heap.size w wx) ∧ Hid (wx.heap[g]? = some (.cells #[.int .i64 x.ch,.int .i64 x.pa,.string x.nm,.float .f64 x.rk] 96 (0,0))))
   case first =>
    have cS:∀ W:World,W.heap[g]? = some (.cells #[.int .i64 x.ch,.int .i64 x.pa,.string x.nm,.float .f64 x.rk] 96 (0,0)) → Below w.heap.size w W → W.cell? ⟨g,0,none⟩ = some (.int .i64 x.ch) ∧ W.cell? ⟨g,1,none⟩ = some (.int .i64 x.pa) ∧ W.heap[g]? = some (.cells #[.int .i64 x.ch,.int .i64 x.pa,.string x.nm,.float .f64 x.rk] 96 (0,0)) ∧ Below w.heap.size w W:=fun W h1 h2 => ⟨cell_at h1 0,cell_at h1 1,h1,h2⟩
    replace cS:=hid cS
    go_region_held3 (fun W:World => W.cell? ⟨g,0,none⟩ = some (.int .i64 x.ch) ∧ W.cell? ⟨g,1,none⟩ = some (.int .i64 x.pa) ∧ W.heap[g]? = some (.cells #[.int .i64 x.ch,.int .i64 x.pa,.string x.nm,.float .f64 x.rk] 96 (0,0)) ∧ Below w.heap.size w W)
     (first | assumption | exact cS.out _ hx'.out hb'.out.drew | exact cS.out _ (alloc_at _ hx'.out) (hb'.out.alloc hsz0 _).drew | exact cS.out _ (alloc_at _ (alloc_at _ hx'.out)) ((hb'.out.alloc hsz0 _).alloc (by simp;omega) _).drew | (refine cS.out _ (alloc_at _ ?_) (Below.alloc ?_ ?_ _) <;> first | assumption | omega | (simp;omega)))
     ((first
       | (refine step_append_near (by rfl) (.tmp 15) (.tmp 18) 203 (by rfl) w.heap.size 3 i0 _ 1 8 Tryz.underlying203 hi hz0 hz1 hz2 rfl (by decide) u3 ((l.take k).map fun m => i64C m.ch).length ((l.take k).map fun m => i64C m.ch) (by rfl) ?_ _ 1 1 [.int .i64 x.ch] (by rfl) rfl ?_ (one_cell (v:=.int .i64 x.ch) rfl) (by unfold maxLen;first | omega | (simp;omega)) (by first | omega | (simp;omega)) (by assumption:_ ∧ _ ∧ _ ∧ Below w.heap.size w _).2.2.2.size ?_;(exact fam_own (i:=0) (by first | exact (hF'.out.alloc _).drew | exact ((hF'.out.alloc _).alloc _).drew) rfl);(first | exact alloc_new _ _ | exact alloc_at _ (alloc_new _ _) | exact second_new _ _ _);intro v5 w5 hO5 hg5 hn5;obtain ⟨a5,k5,e5⟩:=(own_sl hO5.out).len;subst e5;have hF5:=hid (Fam.app (by first | exact (hF'.out.alloc _).drew | exact ((hF'.out.alloc _).alloc _).drew) (i:=0) rfl hO5.out hg5.out hn5.out);have hh5:w5.heap[g]? = some (.cells #[.int .i64 x.ch,.int .i64 x.pa,.string x.nm,.float .f64 x.rk] 96 (0,0)):=fam_other hg5.out (by assumption:_ ∧ _ ∧ _ ∧ Below w.heap.size w _).2.2.1 (fun e' => fam_not (e:=3) (t:=96) (v:=u3) hF'.out (i:=0) rfl hx'.out (by decide) e');have hb5:Below w.heap.size w w5:=(by assumption:_ ∧ _ ∧ _ ∧ Below w.heap.size w _).2.2.2.grown hg5.out (by assumption:_ ∧ _ ∧ _ ∧ Below w.heap.size w _).2.2.2.size (fun j e => ((fam_own (e:=3) (v:=u3) hF'.out (i:=0) rfl).lt _ e).1);have hS5:=cS.out w5 hh5 hb5;have hz5:=hb5.size;have hzg5:=hg5.out.size;(first | (have hq5:w5.heap[W0.heap.size + 1]? = some (.cells #[.int .i64 x.pa] 3 (0,0)):=fam_other hg5.out (second_new _ _ _) (fun e => by have:=((fam_own (e:=3) (v:=u3) hF'.out (i:=0) rfl).lt _ e).2;omega)) | (have hq5:w5.heap[W0.heap.size]? = some (.cells #[.int .i64 x.pa] 3 (0,0)):=fam_other hg5.out (alloc_at _ (alloc_new _ _)) (fun e => by have:=((fam_own (e:=3) (v:=u3) hF'.out (i:=0) rfl).lt _ e).2;omega)) | skip))
       | (refine step_append_near (by rfl) (.tmp 20) (.tmp 23) 203 (by rfl) w.heap.size 3 i0 _ 1 8 Tryz.underlying203 hi hz0 hz1 hz2 rfl (by decide) u4 ((l.take k).map fun m => i64C m.pa).length ((l.take k).map fun m => i64C m.pa) (by rfl) ?_ _ 1 1 [.int .i64 x.pa] (by rfl) rfl ?_ (one_cell (v:=.int .i64 x.pa) rfl) (by unfold maxLen;first | omega | (simp;omega)) (by first | omega | (simp;omega)) (by assumption:_ ∧ _ ∧ _ ∧ Below w.heap.size w _).2.2.2.size ?_;(exact fam_own (i:=1) (by first | exact hF5.out | exact hF5.out.alloc _) rfl);(first | exact alloc_new _ _ | exact alloc_at _ (alloc_new _ _) | exact second_new _ _ _ | exact hq5);intro v6 w6 hO6 hg6 hn6;obtain ⟨a6,k6,e6⟩:=(own_sl hO6.out).len;subst e6;have hF6:=hid (Fam.app (by first | exact hF5.out | exact hF5.out.alloc _) (i:=1) rfl hO6.out hg6.out hn6.out);have hh6:w6.heap[g]? = some (.cells #[.int .i64 x.ch,.int .i64 x.pa,.string x.nm,.float .f64 x.rk] 96 (0,0)):=fam_other hg6.out (by assumption:_ ∧ _ ∧ _ ∧ Below w.heap.size w _).2.2.1 (fun e' => fam_not (e:=3) (t:=96) (v:=u4) hF'.out (i:=1) rfl hx'.out (by decide) e');have hb6:Below w.heap.size w w6:=(by assumption:_ ∧ _ ∧ _ ∧ Below w.heap.size w _).2.2.2.grown hg6.out (by assumption:_ ∧ _ ∧ _ ∧ Below w.heap.size w _).2.2.2.size (fun j e => ((fam_own (e:=3) (v:=u4) hF'.out (i:=1) rfl).lt _ e).1);have hS6:=cS.out w6 hh6 hb6;have hz6:=hb6.size;have hzg6:=hg6.out.size)))
    all_goals
     go_wp2_with fail
     go_meet
     refine ⟨?_,hid hb6,hid hh6⟩
     have hfin:=hF6.out;simp only [List.length_map,List.length_take,Nat.min_eq_left (Nat.le_of_lt hlt)] at hfin;unfold colR at hfin;simp only [List.set_cons_zero,List.set_cons_succ] at hfin;rw [← hp1.out,← hh1.out] at hfin;exact hid hfin
   case rest =>
    clear hF' hx' hb' hsz0 hxl;obtain ⟨hF',hb',hx'⟩:=hcut
    go_upto_region 8 with fail
    generalize wc = W0 at *;have hsz0:=hb'.out.size;have hxl:=lt_of_block hx'.out
    have cS:∀ W:World,W.heap[g]? = some (.cells #[.int .i64 x.ch,.int .i64 x.pa,.string x.nm,.float .f64 x.rk] 96 (0,0)) → Below w.heap.size w W → W.cell? ⟨g,2,none⟩ = some (.string x.nm) ∧ W.cell? ⟨g,3,none⟩ = some (.float .f64 x.rk) ∧ W.heap[g]? = some (.cells #[.int .i64 x.ch,.int .i64 x.pa,.string x.nm,.float .f64 x.rk] 96 (0,0)) ∧ Below w.heap.size w W:=fun W h1 h2 => ⟨cell_at h1 2,cell_at h1 3,h1,h2⟩
    replace cS:=hid cS
    go_region_held3 (fun W:World => W.cell? ⟨g,2,none⟩ = some (.string x.nm) ∧ W.cell? ⟨g,3,none⟩ = some (.float .f64 x.rk) ∧ W.heap[g]? = some (.cells #[.int .i64 x.ch,.int .i64 x.pa,.string x.nm,.float .f64 x.rk] 96 (0,0)) ∧ Below w.heap.size w W)
     (first | assumption | exact cS.out _ hx'.out hb'.out.drew | exact cS.out _ (alloc_at _ hx'.out) (hb'.out.alloc hsz0 _).drew | exact cS.out _ (alloc_at _ (alloc_at _ hx'.out)) ((hb'.out.alloc hsz0 _).alloc (by simp;omega) _).drew | (refine cS.out _ (alloc_at _ ?_) (Below.alloc ?_ ?_ _) <;> first | assumption | omega | (simp;omega)))
     ((first
       | (refine step_append_near (by rfl) (.tmp 25) (.tmp 28) 204 (by rfl) w.heap.size 9 i2 _ 1 16 Tryz.underlying204 hi2 hst0 hst1 hst2 rfl (by decide) u5 ((l.take k).map fun m => strC m.nm).length ((l.take k).map fun m => strC m.nm) (by rfl) ?_ _ 1 1 [.string x.nm] (by rfl) rfl ?_ (one_cell (v:=.string x.nm) rfl) (by unfold maxLen;first | omega | (simp;omega)) (by first | omega | (simp;omega)) (by assumption:_ ∧ _ ∧ _ ∧ Below w.heap.size w _).2.2.2.size ?_;(exact fam_own (i:=2) (by first | exact (hF'.out.alloc _).drew | exact ((hF'.out.alloc _).alloc _).drew) rfl);(first | exact alloc_new _ _ | exact alloc_at _ (alloc_new _ _) | exact second_new _ _ _);intro v5 w5 hO5 hg5 hn5;obtain ⟨a5,k5,e5⟩:=(own_sl hO5.out).len;subst e5;have hF5:=hid (Fam.app (by first | exact (hF'.out.alloc _).drew | exact ((hF'.out.alloc _).alloc _).drew) (i:=2) rfl hO5.out hg5.out hn5.out);have hh5:w5.heap[g]? = some (.cells #[.int .i64 x.ch,.int .i64 x.pa,.string x.nm,.float .f64 x.rk] 96 (0,0)):=fam_other hg5.out (by assumption:_ ∧ _ ∧ _ ∧ Below w.heap.size w _).2.2.1 (fun e' => fam_not (e:=9) (t:=96) (v:=u5) hF'.out (i:=2) rfl hx'.out (by decide) e');have hb5:Below w.heap.size w w5:=(by assumption:_ ∧ _ ∧ _ ∧ Below w.heap.size w _).2.2.2.grown hg5.out (by assumption:_ ∧ _ ∧ _ ∧ Below w.heap.size w _).2.2.2.size (fun j e => ((fam_own (e:=9) (v:=u5) hF'.out (i:=2) rfl).lt _ e).1);have hS5:=cS.out w5 hh5 hb5;have hz5:=hb5.size;have hzg5:=hg5.out.size;(first | (have hq5:w5.heap[W0.heap.size + 1]? = some (.cells #[.float .f64 x.rk] 47 (0,0)):=fam_other hg5.out (second_new _ _ _) (fun e => by have:=((fam_own (e:=9) (v:=u5) hF'.out (i:=2) rfl).lt _ e).2;omega)) | (have hq5:w5.heap[W0.heap.size]? = some (.cells #[.float .f64 x.rk] 47 (0,0)):=fam_other hg5.out (alloc_at _ (alloc_new _ _)) (fun e => by have:=((fam_own (e:=9) (v:=u5) hF'.out (i:=2) rfl).lt _ e).2;omega)) | skip))
       | (refine step_append_near (by rfl) (.tmp 30) (.tmp 33) 205 (by rfl) w.heap.size 47 i3 _ 1 8 Tryz.underlying205 hi3 hv0 hv1 hv2 rfl (by decide) u6 ((l.take k).map fun m => fltC m.rk).length ((l.take k).map fun m => fltC m.rk) (by rfl) ?_ _ 1 1 [.float .f64 x.rk] (by rfl) rfl ?_ (one_cell (v:=.float .f64 x.rk) rfl) (by unfold maxLen;first | omega | (simp;omega)) (by first | omega | (simp;omega)) (by assumption:_ ∧ _ ∧ _ ∧ Below w.heap.size w _).2.2.2.size ?_;(exact fam_own (i:=3) (by first | exact hF5.out | exact hF5.out.alloc _) rfl);(first | exact alloc_new _ _ | exact alloc_at _ (alloc_new _ _) | exact second_new _ _ _ | exact hq5);intro v6 w6 hO6 hg6 hn6;obtain ⟨a6,k6,e6⟩:=(own_sl hO6.out).len;subst e6;have hF6:=hid (Fam.app (by first | exact hF5.out | exact hF5.out.alloc _) (i:=3) rfl hO6.out hg6.out hn6.out);have hh6:w6.heap[g]? = some (.cells #[.int .i64 x.ch,.int .i64 x.pa,.string x.nm,.float .f64 x.rk] 96 (0,0)):=fam_other hg6.out (by assumption:_ ∧ _ ∧ _ ∧ Below w.heap.size w _).2.2.1 (fun e' => fam_not (e:=47) (t:=96) (v:=u6) hF'.out (i:=3) rfl hx'.out (by decide) e');have hb6:Below w.heap.size w w6:=(by assumption:_ ∧ _ ∧ _ ∧ Below w.heap.size w _).2.2.2.grown hg6.out (by assumption:_ ∧ _ ∧ _ ∧ Below w.heap.size w _).2.2.2.size (fun j e => ((fam_own (e:=47) (v:=u6) hF'.out (i:=3) rfl).lt _ e).1);have hS6:=cS.out w6 hh6 hb6;have hz6:=hb6.size;have hzg6:=hg6.out.size)))
    all_goals
     have hfin:=hF6.out;simp only [List.length_map,List.length_take,Nat.min_eq_left (Nat.le_of_lt hlt)] at hfin;unfold colR at hfin;simp only [List.set_cons_zero,List.set_cons_succ] at hfin;rw [← hn1.out,← hk1.out] at hfin;replace hfin:=hid hfin;replace hb6:=hid hb6;clear cS hS6 hh6;go_wp2_with fail
     go_roundw
     case rel => exact ⟨k + 1,by go_num,by omega,hfin,hb6⟩
     case measure => simp [intOf];omega
  ·obtain rfl:k = l.length:=by omega
   have hge:¬ ((l.length:Int) < (l.length:Nat)):=by omega
   have e0:=(fam_own hF.out (i:=0) rfl);have e1:=(fam_own hF.out (i:=1) rfl);have e2:=(fam_own hF.out (i:=2) rfl);have e3:=(fam_own hF.out (i:=3) rfl);rw [List.take_length] at e0 e1 e2 e3;have s0:=is_of e0;have s1:=is_of e1;have s2:=strs_of e2;have s3:=fs_of e3
   have hin:∀ x ∈ l,1 ≤ x.ch ∧ x.ch ≤ 2147483647 ∧ 0 ≤ x.pa ∧ x.pa ≤ 2147483647 ∧ x.nm.size ≤ 64:=fun x hx => (Fo.oneR_in (HN.out x hx)).1
   have o0:IntsOk (l.map (fun m:Rw => m.ch)):=ints_ok hl (fun x hx => by have:=hin x hx;omega);have o1:IntsOk (l.map (fun m:Rw => m.pa)):=ints_ok hl (fun x hx => by have:=hin x hx;omega)
   have o2:∀ s ∈ l.map (fun m:Rw => m.nm),s.size ≤ 64:=fun s hs => by
    obtain ⟨x,hx,rfl⟩:=List.mem_map.1 hs;exact (hin x hx).2.2.2.2
   have o3:∀ z ∈ l.map (fun m:Rw => m.rk),z < 2 * Fl.S:=fun s hs => by
    obtain ⟨x,hx,rfl⟩:=List.mem_map.1 hs;exact HK.out x hx
   have HP:=hid (fun (W:World) (h:Below wr.heap.size wr W) (b:Nat) (hb:W.heap[b]? = some (.cells [Value.iface 159 (.int .i64 (l.length:Nat)),.iface 207 (.agg #[.iface 203 u3]),.iface 207 (.agg #[.iface 203 u4]),.iface 207 (.agg #[.iface 204 u5]),.iface 205 u6].toArray 202 (0,0))) =>
    put_ok b 5 _ (rowsC l) W rfl rfl (by decide) hb (fun k u c hu hc => by
     match k,hu,hc with
     | 0,hu,hc => cases hu;cases hc;exact ⟨rfl,by omega⟩
     | 1,hu,hc => cases hu;cases hc;exact ⟨_,rfl,s0.below h,o0⟩
     | 2,hu,hc => cases hu;cases hc;exact ⟨_,rfl,s1.below h,o1⟩
     | 3,hu,hc => cases hu;cases hc;exact ⟨_,rfl,s2.below h,by rw [List.length_map];exact hl,o2⟩
     | 4,hu,hc => cases hu;cases hc;exact ⟨_,rfl,s3.below h,by rw [List.length_map];exact hl,o3⟩
     | k + 5,hu,hc => simp at hu))
   clear e0 e1 e2 e3 s0 s1 s2 s3 o0 o1 o2 o3 hin hF;go_wp2_with fail;refine (HP.out _ ((Below.refl _ _).alloc (Nat.le_refl _) _) _ (alloc_new _ _)).mono ?_
   rintro e w2 ⟨rfl,b2⟩;have b3:=hid (hb.out.trans (((Below.refl wr.heap.size wr).alloc (Nat.le_refl _) (.cells #[Value.iface 159 (.int .i64 (l.length:Nat)),.iface 207 (.agg #[.iface 203 u3]),.iface 207 (.agg #[.iface 203 u4]),.iface 207 (.agg #[.iface 204 u5]),.iface 205 u6] 202)).trans (b2.mono (by simp)) |>.mono hb.out.size));clear b2;go_wp2_with fail;go_ret;exact ⟨rfl,b3.out⟩
end Sn
end
section
open Go.RowKit Go.Shelf
namespace Sn
open Mem Tp Ck
theorem chs_sl {W:World} {v:Value} {l:List Ch} (h:Chs W v l):Sl W v l.length (cellsC l):=by
 obtain ⟨⟨a,cap,rfl,h1,h2,h3⟩,-⟩:=h;refine ⟨a,cap,rfl,h1,h2,fun h0 => ?_⟩
 obtain ⟨b,off,e1,e2,e3⟩:=h3 h0;refine ⟨b,off,e1,e2,fun j u hu => ?_⟩
 have hj:=(List.getElem?_eq_some_iff.1 hu).1;rw [cellsC_length] at hj;obtain ⟨q1,q2⟩:=e3 (j / 2) (by omega);obtain ⟨p1,p2⟩:=cellsC_at l (j / 2) (by omega)
 rcases Nat.mod_two_eq_zero_or_one j with hm | hm
 ·rw [show j = j / 2 * 2 by omega] at hu ⊢
  rw [p1] at hu;rw [← hu];exact q1
 ·rw [show j = j / 2 * 2 + 1 by omega] at hu ⊢
  rw [p2] at hu;rw [← hu,← Nat.add_assoc];exact q2
theorem chs_src {W:World} {v:Value} {l:List Ch} (h:Chs W v l):Mem.Src W v l.length (cellsC l):=sl_src (chs_sl h) (fun h0 => by rw [List.eq_nil_of_length_eq_zero h0];rfl)
theorem grow_any (n:Nat) (w:World) (h0:0 < n) (hn:n ≤ 100) :
  Calls Tryz.prog 99 #[.slice none 0 0,.int .i64 n] w fun e w' => (∃ v',e = .returned v' ∧ w'.ownsRow w.heap.size 57 2 v' 0 []) ∧ Below w.heap.size w w':=by
 obtain ⟨i0,hi,hz0,hz1,hz2⟩:=info_parts infoC
 have hrz:∀ ty,(Builtin.append_ #[53,3] ty #[.slice none 0 0,.int .i64 n]).run Tryz.prog w = _:=fun ty =>
  Lib.run_append_nil_zeros w 53 3 ty 57 i0 _ .i64 .i64 Tryz.underlying53 Tryz.underlying3 hi hz0 n h0 (by rw [hz1];omega) (by omega) (by rw [hz2];omega)
 have hG1:=grownCap_ge w n 0 57;have hG2:=grownCap_le_maxLen w n 0 57 (by unfold maxLen;omega)
 have hZ:(Builtin.zeroCells (.agg #[.int .i64 0,.string ByteArray.empty]:Value).cells n ++ Builtin.zeroCells (.agg #[.int .i64 0,.string ByteArray.empty]:Value).cells (grownCap w n 0 57 - n)).size = grownCap w n 0 57 * 2:=by
  rw [Array.size_append,size_zeroCells,size_zeroCells,show (.agg #[.int .i64 0,.string ByteArray.empty]:Value).cells.size = 2 from rfl];omega
 generalize Builtin.zeroCells (.agg #[.int .i64 0,.string ByteArray.empty]:Value).cells n ++ Builtin.zeroCells (.agg #[.int .i64 0,.string ByteArray.empty]:Value).cells (grownCap w n 0 57 - n) = Z at *;generalize grownCap w n 0 57 = G at *;have hO:Hid ((w.drew.alloc (.cells Z 57)).ownsRow w.heap.size 57 2 (.slice (some ⟨w.heap.size,0,none⟩) 0 G) 0 []):=hid ⟨rfl,.inr ⟨w.heap.size,G,Z,rfl,Nat.le_refl _,alloc_new w.drew _,Nat.zero_le _,hG2,hZ,rfl⟩⟩;have hb:=hid ((Below.refl w.heap.size w).drew.alloc (Nat.le_refl _) (.cells Z 57))
 have hw1:IntKind.i64.wrap (n:Int) = (n:Int):=by rw [IntKind.wrap_i64];omega
 have hg0:(0:Int) < (n:Int):=by omega
 have hg1:¬ ((n:Int) < 0):=by omega
 have hG0:¬ G = 0:=by omega
 clear hi hz0 hz1 hz2 hG2 hZ;go_enter Tryz.func99,Tryz.ntmps99
 go_wp2_with (at_builtin;refine Lib.wpList_append_run w (by rfl) _ _ 53 3 (by rfl) (.slice none 0 0) (.int .i64 n) (by rfl) (by rfl) _ _ (hrz _) ?_)
 go_ret;exact ⟨⟨_,rfl,hO.out⟩,hb.out⟩
theorem concat_any (b:Nat) (v1 v2:Value) (l1 l2:List Ch) (w:World) (hb:w.heap[b]? = some (.cells #[v1,v2] 53 (0,0))) (h1:Chs w v1 l1) (h2:Chs w v2 l2) (n1:l1.length ≤ 50) (n2:l2.length ≤ 50) (n0:0 < l1.length + l2.length) :
  Calls Tryz.prog 49 #[.slice (some ⟨b,0,none⟩) 2 2] w fun e w' => (∃ v',e = .returned v' ∧ Chs w' v' (l1 ++ l2)) ∧ Below w.heap.size w w':=by
 obtain ⟨i0,hi,hz0,hz1,hz2⟩:=info_parts infoC;have HG:=hid (grow_any (l1.length + l2.length) w n0 (by omega));rw [Int.natCast_add] at HG;have hok:=hid (fun c (h:c ∈ l1 ++ l2) => (List.mem_append.1 h).elim (fun h => h1.bound c h) (fun h => h2.bound c h));have hlt:=lt_of_block hb;have S1:=hid (fun (W:World) (h:Below w.heap.size w W) => chs_src (chs_below h1 h));have S2:=hid (fun (W:World) (h:Below w.heap.size w W) => chs_src (chs_below h2 h))
 have K:∀ W,Below w.heap.size w W → W.cell? ⟨b,0,none⟩ = some v1 ∧ W.cell? ⟨b,1,none⟩ = some v2:=fun W h => ⟨cell_at (below_at h hb hlt) 0,cell_at (below_at h hb hlt) 1⟩
 obtain ⟨a1,c1,rfl⟩:=(chs_sl h1).len;obtain ⟨a2,c2,rfl⟩:=(chs_sl h2).len;obtain ⟨q1,q2⟩:=K w (Below.refl _ _);replace K:=hid K;have hlen1:=cellsC_length l1;have hlen2:=cellsC_length l2;have hlen3:=cellsC_length (l1 ++ l2);have hcat:Hid (cellsC l1 ++ cellsC l2 = cellsC (l1 ++ l2)):=hid (cellsC_append l1 l2).symm
 have hw1:IntKind.i64.wrap (l1.length:Int) = (l1.length:Int):=by rw [IntKind.wrap_i64];omega
 have hw2:IntKind.i64.wrap ((l1.length:Int) + (l2.length:Int)) = (l1.length:Int) + (l2.length:Int):=by rw [IntKind.wrap_i64];omega
 have hp1:¬ ((l1.length:Int) < 0):=by omega
 have hp2:¬ ((l1.length:Int) + (l2.length:Int) < 0):=by omega
 clear h1 h2 hb;go_enter Tryz.func49,Tryz.ntmps49;go_wp2_with fail;refine wp_loop_rounds 3 ?_
 rw [rounds_succ];go_wp2_with fail;rw [rounds_succ];go_wp2_with fail;rw [rounds_succ];go_wp2_with fail;refine HG.out.mono ?_
 rintro e z1 ⟨⟨v',rfl,hO⟩,y1⟩;obtain ⟨a3,k3,e3⟩:=(own_sl hO).len;subst e3;obtain ⟨p1,p2⟩:=K.out z1 y1;have hsz1:=y1.size;replace hO:=hid hO;replace y1:=hid y1;clear q1 q2 HG;go_wp2_with fail;refine wp_loop_rounds 3 ?_
 rw [rounds_succ]
 go_wp2_with (at_builtin;refine wpList_append_src (by rfl) _ _ 53 (by rfl) w.heap.size 57 i0 _ 2 24 Tryz.underlying53 hi hz0 hz1 hz2 rfl (by decide) _ 0 ([]) (by rfl) hO.out _ l1.length (cellsC l1) (by rfl) (by omega) (S1.out _ y1.out) (ones_ch _) (by unfold maxLen;omega) (by omega) (by omega) ?_;intro v5 w5 hown hgrow;obtain ⟨a5,k5,e5⟩:=(own_sl hown).len;subst e5;have hO5:=hid hown;have hb5:=hid (y1.out.grown hgrow y1.out.size (fun j e => (hO.out.lt j e).1));clear hown hgrow)
 have hs5:=hb5.out.size;have hO5':=hO5.out;simp only [Nat.zero_add,List.nil_append] at hO5';replace hO5':=hid hO5';clear hO5;rw [rounds_succ];obtain ⟨r1,r2⟩:=K.out w5 hb5.out;clear p1 p2
 go_wp2_with (at_builtin;refine wpList_append_src (by rfl) _ _ 53 (by rfl) w.heap.size 57 i0 _ 2 24 Tryz.underlying53 hi hz0 hz1 hz2 rfl (by decide) _ l1.length (cellsC l1) (by rfl) hO5'.out _ l2.length (cellsC l2) (by rfl) (by omega) (S2.out _ hb5.out) (ones_ch _) (by unfold maxLen;omega) (by omega) (by omega) ?_;intro v6 w6 hown hgrow;obtain ⟨a6,k6,e6⟩:=(own_sl hown).len;subst e6;have hO6:=hid hown;have hb6:=hid (hb5.out.grown hgrow hb5.out.size (fun j e => (hO5'.out.lt j e).1));clear hown hgrow)
 rw [rounds_succ];go_wp2_with fail;go_ret;refine ⟨⟨_,rfl,?_⟩,hb6.out⟩
 refine OwnC.chs (base:=w.heap.size) ?_ hok.out
 have:=hO6.out;rw [hcat.out] at this;unfold OwnC;rw [List.length_append];exact this
end Sn
end
section
open Go.RowKit Go.Shelf
attribute [local go_sem] Fl.run_store_float
namespace Sn
open Mem Tp Tr Mo Fo
def sepC (r:Rp):List Ck.Ch:=[(1,str (colsB [.cnt r.fl.c.toNat,.cnt r.fl.r.toNat])),(2,str (colsB (rowsC r.base))),(3,str (colsB (marksC r.mks)))]
def RkR (r:Rp):Prop:=(∀ x ∈ r.base,x.rk < 2 * Fl.S) ∧ ∀ m ∈ r.log,m.rk < 2 * Fl.S
theorem fl_nat {r:Rp} (h:WfR r):0 ≤ r.fl.c ∧ r.fl.c ≤ 4611686018427387903 ∧ 0 ≤ r.fl.r ∧ r.fl.r ≤ 255:=by
 rcases h.fl with h | h
 ·rw [h];decide
 ·have:=h.1;unfold okT at this;omega
theorem sep_ok {r:Rp} (h:WfR r):∀ c ∈ sepC r,Ck.Ok c:=by
 have h1:=h.len;have h2:=h.mlen
 have hsz:∀ cs:List Col,(∀ c ∈ cs,(colB c).length ≤ 24000) → (colsB cs).length ≤ 24000 * cs.length:=by
  intro cs
  induction cs with
  | nil => intro _;simp [colsB]
  | cons c cs ih =>
   intro hc;have:=ih (fun c h => hc c (List.mem_cons_of_mem _ h));have:=hc c (List.mem_cons_self ..);unfold colsB at *;rw [List.flatMap_cons,List.length_append,List.length_cons];omega
 have q1:(colsB [Col.cnt r.fl.c.toNat,.cnt r.fl.r.toNat]).length ≤ 24000 * 2:=hsz _ (fun c hc => by
  simp only [List.mem_cons,List.not_mem_nil,or_false] at hc
  rcases hc with rfl | rfl
  all_goals
   unfold colB
   dsimp only
   refine Nat.le_trans (Pk.putL_length _) (by omega))
 have hb:r.base.length ≤ 250:=by omega
 have q2:(colsB (rowsC r.base)).length ≤ 24000 * 5:=hsz (rowsC r.base) (fun c hc => by
  simp only [rowsC,List.mem_cons,List.not_mem_nil,or_false] at hc
  rcases hc with rfl | rfl | rfl | rfl | rfl
  ·have:=Pk.putL_length r.base.length;unfold colB;dsimp only;omega
  ·have u1:=Og.dEnc_len (r.base.map (·.ch));have u2:=Og.partL_len (Og.dEnc (r.base.map (·.ch)));rw [List.length_map] at u1;unfold colB;dsimp only;omega
  ·have u1:=Og.dEnc_len (r.base.map (·.pa));have u2:=Og.partL_len (Og.dEnc (r.base.map (·.pa)));rw [List.length_map] at u1;unfold colB;dsimp only;omega
  ·have h5:∀ s ∈ r.base.map (fun x:Rw => x.nm),s.size ≤ 64:=fun s hs => by
    obtain ⟨x,hx,rfl⟩:=List.mem_map.1 hs;exact (oneR_in (h.one x hx)).1.2.2.2.2
   have u1:=Dc.encDict_len h5;have u2:=Og.partL_len (Dc.encDict (r.base.map (fun x:Rw => x.nm)));rw [List.length_map] at u1;unfold colB;dsimp only;omega
  ·have:=Og.ranksL_len (r.base.map (·.rk));rw [List.length_map] at this;unfold colB;dsimp only;omega)
 have q3:(colsB (marksC r.mks)).length ≤ 24000 * 3:=hsz (marksC r.mks) (fun c hc => by
  simp only [marksC,List.mem_cons,List.not_mem_nil,or_false] at hc
  rcases hc with rfl | rfl | rfl
  ·have:=Pk.putL_length r.mks.length;unfold colB;dsimp only;omega
  ·have u1:=Og.dEnc_len (r.mks.map (·.rep));have u2:=Og.partL_len (Og.dEnc (r.mks.map (·.rep)));rw [List.length_map] at u1;unfold colB;dsimp only;omega
  ·have:=Og.dEnc_len (r.mks.map (·.cnt));rw [List.length_map] at this;unfold colB;dsimp only;omega)
 intro c hc;simp only [sepC,List.mem_cons,List.not_mem_nil,or_false] at hc;unfold Ck.Ok Ck.I64 maxLen
 rcases hc with rfl | rfl | rfl
 all_goals
  refine ⟨(by constructor <;> (dsimp only;omega)),?_⟩
  dsimp only
  rw [str_size];omega
theorem encode_any (vb vl vm:Value) (r:Rp) (w:World) (hR:RepW w vb vl vm r) (hW:WfR r) (hk:RkR r) :
  Calls Tryz.prog 47 #[repV vb r.fl vl vm] w fun e w' => (∃ v',e = .returned (.tuple #[v',.int .i64 0]) ∧ Ck.Chs w' v' (sepC r)) ∧ Below w.heap.size w w':=by
 have h1:=hW.len;have h2:=hW.mlen;obtain ⟨f1,f2,f3,f4⟩:=fl_nat hW;have hb0:=(Below.refl w.heap.size w).alloc (Nat.le_refl _) (.cells #[vb,.int .i64 r.fl.c,.int .i64 r.fl.r,vl,vm] 34);have g0:=alloc_new w (.cells #[vb,.int .i64 r.fl.c,.int .i64 r.fl.r,vl,vm] 34);obtain ⟨W0,hW0⟩:∃ W0,w.alloc (.cells #[vb,.int .i64 r.fl.c,.int .i64 r.fl.r,vl,vm] 34) = W0:=⟨_,rfl⟩;have hR0:=hR.below hb0;rw [hW0] at hb0 g0 hR0;have hl0:=lt_of_block g0
 have HA:=hid (Tr.may_ok vb r.base W0 hR0.b (by omega) hW.one (fun x h => by have:=(oneR_in (hW.one x h)).1;omega) (fun j a b h k => pw_adj hW.rise j a b h k) (rise_nodup hW.rise) (fun x h => oneR_r (hW.one x h)) hW.acyc);have HC:=hid (fun (W:World) (h:Below W0.heap.size W0 W) => Mr.may_ok vm r.mks W (hR0.below h).m (by omega) hW.mks);obtain ⟨nc,hnc⟩:∃ nc:Nat,r.fl.c = (nc:Int):=⟨r.fl.c.toNat,by omega⟩;obtain ⟨nr,hnr⟩:∃ nr:Nat,r.fl.r = (nr:Int):=⟨r.fl.r.toNat,by omega⟩
 have HP:=hid (fun (W:World) (b:Nat) (hb:W.heap[b]? = some (.cells [Value.iface 159 (.int .i64 (nc:Int)),.iface 159 (.int .i64 (nr:Int))].toArray 202 (0,0))) =>
  put_ok b 2 _ [.cnt r.fl.c.toNat,.cnt r.fl.r.toNat] W rfl rfl (by decide) hb (fun k u c hu hc => by
   match k,hu,hc with
   | 0,hu,hc => cases hu;cases hc;exact ⟨by rw [hnc];rfl,by omega⟩
   | 1,hu,hc => cases hu;cases hc;exact ⟨by rw [hnr];rfl,by omega⟩
   | k + 2,hu,hc => simp at hu))
 have HRw:=hid (fun (W:World) (h:Below W0.heap.size W0 W) => putRows_any vb r.base W (hR0.below h).b (by omega) hW.one hk.1);have HMk:=hid (fun (W:World) (h:Below W0.heap.size W0 W) => putMarks_any vm r.mks W (hR0.below h).m (by omega) (fun x hx => by have:=hW.mks.1 x hx;omega));have hOC:=hid (show sepC r = [(1,str (colsB [.cnt r.fl.c.toNat,.cnt r.fl.r.toNat])),(2,str (colsB (rowsC r.base))),(3,str (colsB (marksC r.mks)))] from rfl);have hOk:=hid (sep_ok hW);rw [hOC.out] at hOk;obtain ⟨a1,k1,e1⟩:=hR.b.len;obtain ⟨a3,k3,e3⟩:=hR.m.len;subst e1 e3
 rw [hnc,hnr] at g0
 have K:∀ W,Below W0.heap.size W0 W → W.cell? ⟨w.heap.size,0,none⟩ = some (.slice a1 r.base.length k1) ∧ W.cell? ⟨w.heap.size,1,none⟩ = some (.int .i64 (nc:Int)) ∧ W.cell? ⟨w.heap.size,2,none⟩ = some (.int .i64 (nr:Int)) ∧ W.cell? ⟨w.heap.size,4,none⟩ = some (.slice a3 r.mks.length k3) ∧ Below W0.heap.size W0 W:=fun W h =>
  ⟨cell_at (below_at h g0 hl0) 0,cell_at (below_at h g0 hl0) 1,cell_at (below_at h g0 hl0) 2,cell_at (below_at h g0 hl0) 4,h⟩
 replace K:=hid K;have c0:W0.cell? ⟨w.heap.size,0,none⟩ = some (.slice a1 r.base.length k1):=cell_at g0 0;replace hb0:=hid hb0;replace hW0:=hid hW0
 have hg1:¬ ((nc:Int) < 0):=by omega
 have hg2:¬ ((nr:Int) < 0):=by omega
 clear hR hR0 hW hk g0;unfold repV;rw [hnc,hnr];generalize str (colsB [Col.cnt r.fl.c.toNat,.cnt r.fl.r.toNat]) = x1 at *;generalize str (colsB (rowsC r.base)) = x2 at *;generalize str (colsB (marksC r.mks)) = x3 at *;replace hnc:=hid hnc;replace hnr:=hid hnr;rw [hnc.out,hnr.out] at hW0;clear f1 f2 f3 f4;go_enter Tryz.func47,Tryz.ntmps47;go_wp2_with fail;rw [hW0.out];refine HA.out.mono ?_
 rintro e w1 ⟨rfl,b1⟩;obtain ⟨c0,c1,c2,c4,-⟩:=K.out w1 b1;replace b1:=hid b1;clear hW0 HA;go_wp2_with fail;refine (HC.out _ b1.out).mono ?_
 rintro e w2 ⟨rfl,b2⟩;replace b2:=hid (b1.out.trans (b2.mono b1.out.size));clear c0 c1 c2 c4 b1 HC;obtain ⟨c0,c1,c2,c4,-⟩:=K.out w2 b2.out
 go_upto_region 3 with fail
 have hs2:=b2.out.size
 go_region_held3 (fun W:World => W.cell? ⟨w.heap.size,0,none⟩ = some (.slice a1 r.base.length k1) ∧ W.cell? ⟨w.heap.size,1,none⟩ = some (.int .i64 (nc:Int)) ∧ W.cell? ⟨w.heap.size,2,none⟩ = some (.int .i64 (nr:Int)) ∧ W.cell? ⟨w.heap.size,4,none⟩ = some (.slice a3 r.mks.length k3) ∧ Below W0.heap.size W0 W)
  (first | assumption | exact K.out _ b2.out.drew | exact K.out _ (b2.out.alloc hs2 _).drew | exact K.out _ b5.out | exact K.out _ b6.out | exact K.out _ b7.out | exact K.out _ (b7.out.alloc (by have:=b7.out.size;omega) _))
  ((first
   | (go_at_call 91;(refine (HP.out (World.drew (w2.alloc _)) _ (alloc_new w2 _)).mono ?_);rintro e w5 ⟨rfl,b5⟩;replace b5:=hid ((b2.out.alloc hs2 _).drew.trans (b5.mono (by show W0.heap.size ≤ (w2.alloc _).heap.size;simp;omega))))
   | (go_at_call 92;(refine (HRw.out _ b5.out).mono ?_);rintro e w6 ⟨rfl,b6⟩;replace b6:=hid (b5.out.trans (b6.mono b5.out.size)))
   | (go_at_call 93;(refine (HMk.out _ b6.out).mono ?_);rintro e w7 ⟨rfl,b7⟩;replace b7:=hid (b6.out.trans (b7.mono b6.out.size)))))
 all_goals
  go_wp2_with fail;go_ret2;have hbz:=hb0.out.trans (b7.out.mono hb0.out.size);rw [hOC.out];exact ⟨⟨_,rfl,Og.chs_of_block (alloc_new _ _) rfl hOk.out⟩,hbz.alloc hbz.size _⟩
end Sn
end
section
open Go.RowKit Go.Shelf
attribute [local go_sem] Fl.run_store_float
namespace St
open Mem Tp Tr Mo Fo Sn
def allC (r:Rp):List Ck.Ch:=sepC r ++ Og.opC r.log
theorem chunks_any (vb vl vm:Value) (r:Rp) (w:World) (hR:RepW w vb vl vm r) (hW:WfR r) (hk:RkR r) :
  Calls Tryz.prog 21 #[repV vb r.fl vl vm] w fun e w' => (∃ v',e = .returned (.tuple #[v',.int .i64 0]) ∧ Ck.Chs w' v' (allC r)) ∧ Below w.heap.size w w':=by
 have h1:=hW.len;have hb0:=(Below.refl w.heap.size w).alloc (Nat.le_refl _) (.cells #[vb,.int .i64 r.fl.c,.int .i64 r.fl.r,vl,vm] 34);have g0:=alloc_new w (.cells #[vb,.int .i64 r.fl.c,.int .i64 r.fl.r,vl,vm] 34);obtain ⟨W0,hW0⟩:∃ W0,w.alloc (.cells #[vb,.int .i64 r.fl.c,.int .i64 r.fl.r,vl,vm] 34) = W0:=⟨_,rfl⟩;have hR0:=hR.below hb0;rw [hW0] at hb0 g0 hR0;have hl0:=lt_of_block g0;have HM:=hid (Fo.may_ok vb vl vm r W0 hR0 hW);have HE:=hid (fun (W:World) (h:Below W0.heap.size W0 W) => Sn.encode_any vb vl vm r W (hR0.below h) hW hk)
 have HO:=hid (fun (W:World) (h:Below W0.heap.size W0 W) => Og.encode_any vl r.log W (hR0.below h).l (by omega) hW.lone hk.2 hW.lrise);have HC:=hid (fun (b:Nat) (v1 v2:Value) (W:World) hb h1 h2 => concat_any b v1 v2 (sepC r) (Og.opC r.log) W hb h1 h2 (by show 3 ≤ 50;decide) (by show 5 ≤ 50;decide) (by show 0 < 3 + 5;decide));obtain ⟨a1,k1,e1⟩:=hR.b.len;obtain ⟨a2,k2,e2⟩:=hR.l.len;obtain ⟨a3,k3,e3⟩:=hR.m.len;subst e1 e2 e3
 have K:∀ W,Below W0.heap.size W0 W → W.heap[w.heap.size]? = some (.cells #[.slice a1 r.base.length k1,.int .i64 r.fl.c,.int .i64 r.fl.r,.slice a2 r.log.length k2,.slice a3 r.mks.length k3] 34 (0,0)):=fun W h => below_at h g0 hl0
 replace K:=hid K;have c0:W0.cell? ⟨w.heap.size,0,none⟩ = some (.slice a1 r.base.length k1):=cell_at g0 0;have c1:W0.cell? ⟨w.heap.size,1,none⟩ = some (.int .i64 r.fl.c):=cell_at g0 1;have c2:W0.cell? ⟨w.heap.size,2,none⟩ = some (.int .i64 r.fl.r):=cell_at g0 2;have c3:W0.cell? ⟨w.heap.size,3,none⟩ = some (.slice a2 r.log.length k2):=cell_at g0 3;have c4:W0.cell? ⟨w.heap.size,4,none⟩ = some (.slice a3 r.mks.length k3):=cell_at g0 4;replace hb0:=hid hb0;replace hW0:=hid hW0;clear hR hR0 hW hk g0;unfold repV at HM HE ⊢;go_enter Tryz.func21,Tryz.ntmps21
 go_wp2_with fail;rw [hW0.out];refine HM.out.mono ?_
 rintro e w1 ⟨rfl,b1⟩;clear c0 c1 c2 c3 c4;have c0:w1.cell? ⟨w.heap.size,0,none⟩ = some (.slice a1 r.base.length k1):=cell_at (K.out _ b1) 0;have c1:w1.cell? ⟨w.heap.size,1,none⟩ = some (.int .i64 r.fl.c):=cell_at (K.out _ b1) 1;have c2:w1.cell? ⟨w.heap.size,2,none⟩ = some (.int .i64 r.fl.r):=cell_at (K.out _ b1) 2;have c3:w1.cell? ⟨w.heap.size,3,none⟩ = some (.slice a2 r.log.length k2):=cell_at (K.out _ b1) 3;have c4:w1.cell? ⟨w.heap.size,4,none⟩ = some (.slice a3 r.mks.length k3):=cell_at (K.out _ b1) 4;replace b1:=hid b1;clear hW0 HM;go_wp2_with fail
 refine (HE.out _ b1.out).mono ?_
 rintro e w2 ⟨⟨v2,rfl,hC2⟩,b2⟩;replace b2:=b1.out.trans (b2.mono b1.out.size);clear c0 c1 c2 c3 c4;have c3:w2.cell? ⟨w.heap.size,3,none⟩ = some (.slice a2 r.log.length k2):=cell_at (K.out _ b2) 3;obtain ⟨a5,k5,e5⟩:=(chs_sl hC2).len;subst e5;replace b2:=hid b2;replace hC2:=hid hC2;clear b1 HE;go_wp2_with fail;refine (HO.out _ b2.out).mono ?_
 rintro e w3 ⟨⟨v3,rfl,hC3⟩,b3⟩;have hC23:=hid (Ck.chs_below hC2.out b3);obtain ⟨a6,k6,e6⟩:=(chs_sl hC3).len;subst e6;replace b3:=hid (b2.out.trans (b3.mono b2.out.size));replace hC3:=hid hC3;clear b2 HO hC2 c3;go_wp2_with fail;have bz:=(Below.refl w3.heap.size w3).alloc (Nat.le_refl _) (.cells #[.slice a5 (sepC r).length k5,.slice a6 (Og.opC r.log).length k6] 53);refine (HC.out _ _ _ _ (alloc_new w3 _) (Ck.chs_below hC23.out bz) (Ck.chs_below hC3.out bz)).mono ?_
 rintro e w4 ⟨⟨v4,rfl,hC4⟩,b4⟩;have b5:=hid (b3.out.trans ((bz.trans (b4.mono (by simp))).mono b3.out.size));replace hC4:=hid hC4;clear b4 bz;go_wp2_with fail;go_ret2;exact ⟨⟨_,rfl,hC4.out⟩,hb0.out.trans (b5.out.mono hb0.out.size)⟩
def fileS (r:Rp):ByteArray:=Ck.joinS 2 (allC r)
theorem size_one (c:Ck.Ch):c.2.size ≤ (Ck.oneL c).length:=by
 unfold Ck.oneL Ck.sealL;rw [List.length_append,List.length_append,List.length_append,size_list];omega
theorem join_all {r:Rp} (hf:((allC r).flatMap Ck.oneL).length ≤ 90000):Ck.joinE 2 (allC r) = 0:=by
 have hs:∀ c ∈ allC r,¬ 1048576 < c.2.size:=fun c hc => by
  have h1:=Ck.one_in hc;have h2:=size_one c;omega
 have key:∀ (l:List Ck.Ch) (last:Int),(∀ c ∈ l,¬ 1048576 < c.2.size) → (l.map (·.1)).Pairwise (· < ·) → (∀ c ∈ l,last < c.1 ∧ c.1 ≤ 255) → Ck.joinGo last l = 0:=by
  intro l
  induction l with
  | nil => intro _ _ _ _;rfl
  | cons c l ih =>
   intro last h1 h2 h3;have h4:=h3 c (List.mem_cons_self ..);rw [Ck.joinGo,if_neg (by omega),if_neg (h1 c (List.mem_cons_self ..))];rw [List.map_cons,List.pairwise_cons] at h2;exact ih c.1 (fun d hd => h1 d (List.mem_cons_of_mem _ hd)) h2.2 (fun d hd => ⟨h2.1 d.1 (List.mem_map_of_mem hd),(h3 d (List.mem_cons_of_mem _ hd)).2⟩)
 have hk:(allC r).map (·.1) = [1,2,3,4,5,6,7,8]:=rfl;unfold Ck.joinE;rw [if_neg (by decide)];refine key _ _ hs (by rw [hk];decide) (fun c hc => ?_)
 have:c.1 ∈ (allC r).map (·.1):=List.mem_map_of_mem hc;rw [hk] at this;simp only [List.mem_cons,List.not_mem_nil,or_false] at this;omega
theorem save_any (vb vl vm:Value) (r:Rp) (w:World) (hR:RepW w vb vl vm r) (hW:WfR r) (hk:RkR r) (hf:((allC r).flatMap Ck.oneL).length ≤ 90000) :
  Calls Tryz.prog 17 #[repV vb r.fl vl vm] w fun e w' => e = .returned (.tuple #[.string (fileS r),.int .i64 0]) ∧ Below w.heap.size w w':=by
 have hb0:=(Below.refl w.heap.size w).alloc (Nat.le_refl _) (.cells #[vb,.int .i64 r.fl.c,.int .i64 r.fl.r,vl,vm] 34);have g0:=alloc_new w (.cells #[vb,.int .i64 r.fl.c,.int .i64 r.fl.r,vl,vm] 34);obtain ⟨W0,hW0⟩:∃ W0,w.alloc (.cells #[vb,.int .i64 r.fl.c,.int .i64 r.fl.r,vl,vm] 34) = W0:=⟨_,rfl⟩;have hR0:=hR.below hb0;rw [hW0] at hb0 g0 hR0;have HC:=hid (chunks_any vb vl vm r W0 hR0 hW hk);have HJ:=hid (fun (v:Value) (W:World) (h:Ck.Chs W v (allC r)) => Ck.join_any 2 v (allC r) W h hf (by show 8 ≤ 90000;decide));have hJ:=join_all hf
 have hV:Hid (Ck.joinV 2 (allC r) = .tuple #[.string (fileS r),.int .i64 0]):=hid (by unfold Ck.joinV fileS;rw [hJ]);rw [hV.out] at HJ;obtain ⟨a1,k1,e1⟩:=hR.b.len;obtain ⟨a2,k2,e2⟩:=hR.l.len;obtain ⟨a3,k3,e3⟩:=hR.m.len;subst e1 e2 e3;have c0:W0.cell? ⟨w.heap.size,0,none⟩ = some (.slice a1 r.base.length k1):=cell_at g0 0;have c1:W0.cell? ⟨w.heap.size,1,none⟩ = some (.int .i64 r.fl.c):=cell_at g0 1;have c2:W0.cell? ⟨w.heap.size,2,none⟩ = some (.int .i64 r.fl.r):=cell_at g0 2
 have c3:W0.cell? ⟨w.heap.size,3,none⟩ = some (.slice a2 r.log.length k2):=cell_at g0 3;have c4:W0.cell? ⟨w.heap.size,4,none⟩ = some (.slice a3 r.mks.length k3):=cell_at g0 4;replace hb0:=hid hb0;replace hW0:=hid hW0;clear hR hR0 hW hk g0 hf hJ hV;generalize fileS r = s at *;unfold repV at HC ⊢;go_enter Tryz.func17,Tryz.ntmps17;go_wp2_with fail;rw [hW0.out];refine HC.out.mono ?_
 rintro e w2 ⟨⟨v2,rfl,hC2⟩,b2⟩;obtain ⟨a5,k5,e5⟩:=(chs_sl hC2).len;subst e5;have HJ2:=hid (HJ.out _ w2 hC2);have b3:=hid (hb0.out.trans (b2.mono hb0.out.size));clear b2 hC2 HC HJ c0 c1 c2 c3 c4 hW0;go_wp2_with fail;refine HJ2.out.mono ?_
 rintro e w3 ⟨rfl,b4⟩;have b5:=hid (b3.out.trans (b4.mono b3.out.size));clear b4;go_wp2_with fail;go_ret2;exact ⟨rfl,b5.out⟩
end St
end
section
open Go.RowKit Go.Shelf
attribute [local go_sem] Fl.run_store_float
namespace Og
open Mem Tp Tr Mo Pk
def Rd (W:World) (v:Value) (n:Nat) (cs:List Value):Prop:=
 ∃ (a:Option Addr) (cap:Nat),v = .slice a n cap ∧ (0 < n → ∃ b off,a = some ⟨b,off,none⟩ ∧ b < W.heap.size ∧ ∀ j u,cs[j]? = some u → W.cell? ⟨b,off + j,none⟩ = some u)
theorem Rd.below {W W':World} {v:Value} {n:Nat} {cs:List Value} (h:Rd W v n cs) (hb:Below W.heap.size W W'):Rd W' v n cs:=by
 obtain ⟨a,cap,e,h3⟩:=h;refine ⟨a,cap,e,fun h0 => ?_⟩
 obtain ⟨b,off,e1,e2,e3⟩:=h3 h0;exact ⟨b,off,e1,Nat.lt_of_lt_of_le e2 hb.size,fun j u hu => (hb.cell (p:=⟨b,off + j,none⟩) e2).trans (e3 j u hu)⟩
theorem rd_sl {W:World} {v:Value} {n:Nat} {cs:List Value} (h:Sl W v n cs):Rd W v n cs:=by
 obtain ⟨a,cap,e,h1,h2,h3⟩:=h;exact ⟨a,cap,e,h3⟩
theorem rd_ints {W:World} {v:Value} {l:List Int} (h:Opened.Ints .i64 W v l):Rd W v l.length (l.map i64C):=by
 obtain ⟨⟨a,cap,rfl,h1⟩,-⟩:=h;refine ⟨a,cap,rfl,fun h0 => ?_⟩
 obtain ⟨b,off,e,hlt,hcc⟩:=h1 h0;refine ⟨b,off,e,hlt,fun j u hu => ?_⟩
 rw [List.getElem?_map] at hu;obtain ⟨x,hx,rfl⟩:=Option.map_eq_some_iff.1 hu;have:=hcc j (List.getElem?_eq_some_iff.1 hx).1;rw [this];simp [i64C,List.getD,hx]
theorem rd_flts {W:World} {v:Value} {l:List Nat} (h:Rl.Flts W v l):Rd W v l.length (l.map fltC):=by
 obtain ⟨⟨a,cap,rfl,h1,h2⟩,-⟩:=h;refine ⟨a,cap,rfl,fun h0 => ?_⟩
 obtain ⟨b,off,e,hlt,hcc⟩:=h2 h0;refine ⟨b,off,e,hlt,fun j u hu => ?_⟩
 rw [List.getElem?_map] at hu;obtain ⟨x,hx,rfl⟩:=Option.map_eq_some_iff.1 hu;have:=hcc j (List.getElem?_eq_some_iff.1 hx).1;rw [this];simp [fltC,hx]
theorem rd_at {W W':World} {v:Value} {n:Nat} {cs:List Value} {bl:Nat} {a0:Option Addr} {n0 c0:Nat} {t:TypeId} (h:Rd W v n cs) (hv:W.heap[bl]? = some (.cells #[.slice a0 n0 c0] t (0,0))) (hk:Kept (· = bl) W W') {k:Nat} {u:Value} (hu:cs[k]? = some u) (hns:∀ a n c,u ≠ .slice a n c) (hkn:k < n) :
  ∃ b off cap,v = .slice (some ⟨b,off,none⟩) n cap ∧ W'.cell? ⟨b,off + k,none⟩ = some u:=by
 obtain ⟨a,cap,e,h3⟩:=h;obtain ⟨b,off,e1,e2,e3⟩:=h3 (by omega);have hc:=e3 k u hu
 have hne:b ≠ bl:=by
  rintro rfl;rw [cell_at hv] at hc
  cases hj:off + k with
  | zero => rw [hj] at hc;simp at hc;exact hns _ _ _ hc.symm
  | succ j => rw [hj] at hc;simp at hc
 refine ⟨b,off,cap,by rw [e,e1],?_⟩
 simp only [World.cell?] at hc ⊢;rw [hk.block b e2 hne];exact hc
theorem decD {l:List Int} (h:∀ n ∈ l,-9223372036854775808 ≤ n ∧ n ≤ 9223372036854775807) (hl:l.length ≤ 900) (w:World) :
  Calls Tryz.prog 153 #[.string (str (dEnc l)),.int .i64 (l.length:Nat)] w fun e w' => (∃ r,e = .returned (.tuple #[r,.int .i64 0]) ∧ Rd w' r l.length (l.map i64C)) ∧ Below w.heap.size w w':=by
 have hd:=Dl.dec_enc (l:=l) h;have hl2:=dEnc_len l;refine (Dl.decode_any (str (dEnc l)) (l.length:Nat) w (by rw [str_size];omega)).mono ?_
 rintro e w' ⟨⟨r,he,hr⟩,hb⟩;unfold dEnc at he hr;rw [hd.1] at he;rw [hd.2] at hr;exact ⟨⟨r,he,rd_ints hr⟩,hb⟩
def nrmM (m:Mv):Mv:={ m with rk:=Fl.canon m.rk }
def nrmR (r:Rw):Rw:={ r with rk:=Fl.canon r.rk }
def withRk (l:List Mv) (L:List Nat):List Mv:=List.zipWith (fun m k => { m with rk:=k }) l L
theorem withRk_len {l:List Mv} {L:List Nat} (h:L.length = l.length):(withRk l L).length = l.length:=by unfold withRk;rw [List.length_zipWith,h,Nat.min_self]
theorem withRk_at {l:List Mv} {L:List Nat} {k:Nat} {x:Mv} {z:Nat} (hx:l[k]? = some x) (hz:L[k]? = some z):(withRk l L)[k]? = some { x with rk:=z }:=by
 unfold withRk;rw [List.getElem?_zipWith,hx,hz]
theorem withRk_nrm {L:List Nat}:∀ {l:List Mv},L.map Fl.canon = (l.map (fun m => m.rk)).map Fl.canon → (withRk l L).map nrmM = l.map nrmM:=by
 induction L with
 | nil =>
  intro l h
  cases l with
  | nil => rfl
  | cons m l => simp at h
 | cons z L ih =>
  intro l h
  cases l with
  | nil => simp at h
  | cons m l =>
   simp only [List.map_cons,List.cons.injEq] at h
   show nrmM { m with rk:=z } :: (withRk l L).map nrmM = _
   rw [ih h.2,List.map_cons];unfold nrmM;simp only;rw [h.1]
theorem withRk_mem {l:List Mv} {L:List Nat} {m:Mv} (h:m ∈ withRk l L):(∃ x ∈ l,m = { x with rk:=m.rk }) ∧ m.rk ∈ L:=by
 unfold withRk at h;rw [List.mem_iff_getElem?] at h;obtain ⟨k,hk⟩:=h;rw [List.getElem?_zipWith] at hk
 cases h1:l[k]? with
 | none => rw [h1] at hk;simp at hk
 | some x =>
  cases h2:L[k]? with
  | none => rw [h1,h2] at hk;simp at hk
  | some z =>
   rw [h1,h2] at hk;simp only [Option.some.injEq] at hk;subst hk;exact ⟨⟨x,List.mem_of_getElem? h1,rfl⟩,List.mem_of_getElem? h2⟩
theorem withRk_t {L:List Nat}:∀ {l:List Mv},L.length = l.length → (withRk l L).map (fun m => m.t) = l.map (fun m => m.t):=by
 induction L with
 | nil =>
  intro l h
  cases l with
  | nil => rfl
  | cons m l => simp at h
 | cons z L ih =>
  intro l h
  cases l with
  | nil => simp at h
  | cons m l =>
   show m.t :: (withRk l L).map (fun m => m.t) = _
   rw [ih (by simpa using h)]
   rfl
def VM (b:Nat) (v:Value) (W:World):Prop:=W.heap[b]? = some (.cells #[v] 25 (0,0))
end Og
end
section
open Go.RowKit Go.Shelf
namespace Sn
open Mem Tp Tr Mo Pk Og
def BB (b:Nat) (s:ByteArray) (n:Nat) (W:World):Prop:=W.heap[b]? = some (.cells #[.string s,.int .i64 (n:Int),.int .i64 0] 277 (0,0))
theorem rd_bb {W W':World} {v:Value} {m n b:Nat} {cs:List Value} {s s':ByteArray} (h:Rd W v m cs) (hb:BB b s n W) (hb':BB b s' n W') (hk:Kept (· = b) W W') (hns:(∀ u ∈ cs,∀ t,u ≠ .string t) ∨ s' = s):Rd W' v m cs:=by
 obtain ⟨a,cap,e,h3⟩:=h;refine ⟨a,cap,e,fun h0 => ?_⟩
 obtain ⟨g,off,e1,e2,e3⟩:=h3 h0;refine ⟨g,off,e1,Nat.lt_of_lt_of_le e2 hk.size,fun j u hu => ?_⟩
 have hc:=e3 j u hu
 by_cases hg:g = b
 ·subst hg
  rw [cell_at hb] at hc;rw [cell_at hb']
  rcases hns with h | h
  ·cases hj:off + j with
   | zero =>
    rw [hj] at hc;simp at hc;exact absurd hc.symm (h u (List.mem_of_getElem? hu) s)
   | succ i =>
    rw [hj] at hc
    simpa using hc
  ·rw [h]
   exact hc
 ·simp only [World.cell?] at hc ⊢
  rw [hk.block g e2 hg];exact hc
theorem open_ok (n most:Nat) (t:List UInt8) (w:World) (hn:n ≤ most) (hm:most ≤ 4000) (ht:t.length ≤ 100000) :
  Calls Tryz.prog 191 #[.string (str (putL n ++ t)),.int .u64 (most:Nat)] w fun e w' => (∃ g,e = .returned (.pointer (some ⟨g,0,none⟩)) ∧ w.heap.size ≤ g ∧ BB g (str t) n w') ∧ Below w.heap.size w w':=by
 have hend:=Dc.str_tail (putL n) t rfl
 have hsz:(str (putL n ++ t)).size = (putL n).length + t.length:=by rw [str_size,List.length_append]
 have hpl:=putL_length n;obtain ⟨S,hS⟩:∃ S,str (putL n ++ t) = S:=⟨_,rfl⟩;have hS0:=hid hS;rw [hS] at hend hsz ⊢
 have hn0:(0:Int) ≤ ((putL n).length:Int):=by omega
 generalize (putL n).length = T at *
 have hT1:(T:Int) ≤ (S.size:Nat):=by omega
 have hT2:T ≤ S.size:=by omega
 have hsub:(S.size:Int) - (t.length:Nat) = (T:Int):=by omega
 have hsub2:IntKind.i64.wrap (T:Int) = (T:Int):=IntWalk.i64_in _ (by omega);have hq1:decide (most < n) = false:=decide_eq_false (by omega);have hq2:decide ((most:Int) < (n:Int)) = false:=decide_eq_false (by omega);have hq4:IntKind.i64.wrap (n:Int) = (n:Int):=IntWalk.i64_in _ (by omega);replace hsz:=hid hsz;replace hsub:=hid hsub;replace hsub2:=hid hsub2;have hend2:=hid hend;clear hS hend;go_enter Tryz.func191,Tryz.ntmps191;go_wp2_with fail;refine (new_any _ _).mono ?_
 rintro e w1 ⟨rfl,hw1⟩;have hB:=hid (show RB w.heap.size (putL n ++ t) w1 by rw [hw1,← hS0.out];exact RB.new _ _);have hb:=hid (show Below w.heap.size w w1 by rw [hw1];exact (Below.refl _ _).alloc (Nat.le_refl _) _);have hwl:=lt_of_block hB.out;clear hw1;go_wp2_with fail;refine (rb_num hB.out (by unfold W64;omega) (by omega)).mono ?_
 rintro e w2 ⟨rfl,hB2,k2⟩;have hb2:=hid (hb.out.trans (k2.to_below (B:=w.heap.size) (by omega) (fun i hi h => by omega)));replace hB2:=hid hB2;have hs2:=k2.size;clear k2 hB hb;go_wp2_with fail;refine (rb_err hB2.out).mono ?_
 rintro e w3 ⟨rfl,rfl⟩;go_wp2_with fail;refine (rb_left hB2.out).mono ?_
 rintro e w3 ⟨rfl,rfl⟩;have h1:=hsub.out;have h2:=hsub2.out;have h3:=hend2.out;have hbf:=hid (hb2.out.alloc (Nat.le_trans (Nat.le_of_lt hwl) hs2) (.cells #[.string (str t),.int .i64 (n:Int),.int .i64 0] 277));have hng:=hid (alloc_new w2 (.cells #[.string (str t),.int .i64 (n:Int),.int .i64 0] 277));generalize htt:str t = tt at *;replace htt:=hid htt;go_wp2_with fail;go_ret;exact ⟨⟨_,rfl,Nat.le_trans (Nat.le_of_lt hwl) hs2,by rw [htt.out];exact hng.out⟩,hbf.out⟩
theorem next_int (b n:Nat) (x y:List UInt8) (f:Nat) (pc:Value) (m:Nat) (cs:List Value) (w:World) (hB:BB b (str (partL x ++ y)) n w) (hl:x.length + y.length ≤ 100000)
  (E:∀ w1,(callFunc f #[.string (str x),pc]).run Tryz.prog w1 = .ok (.enter f #[.string (str x),pc]) w1)
  (F:∀ w1,Kept (· = b) w w1 → BB b (str y) n w1 → Calls Tryz.prog f #[.string (str x),pc] w1 fun e w' => (∃ r,e = .returned (.tuple #[r,.int .i64 0]) ∧ Rd w' r m cs) ∧ Below w1.heap.size w1 w') :
  Calls Tryz.prog 193 #[.pointer (some ⟨b,0,none⟩),.func (.func f) #[] #[pc]] w fun e w' => (∃ r,e = .returned r ∧ Rd w' r m cs) ∧ BB b (str y) n w' ∧ Kept (· = b) w w':=by
 have HC:=hid (Cut_ok x y w hl);have hlt:=lt_of_block hB;have c0:=(show w.cell? ⟨b,0,none⟩ = some (.string (str (partL x ++ y))) from cell_at hB 0);have c2:=(show w.cell? ⟨b,2,none⟩ = some (.int .i64 0) from cell_at hB 2);have HB:=hid hB;have HF:=hid F;clear hB F;generalize str (partL x ++ y) = s0 at *;generalize str x = sx at *;generalize hsy:str y = sy at *;replace hsy:=hid hsy;go_enter Tryz.func193,Tryz.ntmps193;go_wp2_with fail;refine HC.out.mono ?_
 rintro e w1 ⟨rfl,b1⟩;have hB1:w1.heap[b]? = some (.cells #[.string s0,.int .i64 (n:Int),.int .i64 0] 277 (0,0)):=below_at b1 HB.out hlt;have d0:=(show w1.cell? ⟨b,0,none⟩ = some (.string s0) from cell_at hB1 0);have d2:=(show w1.cell? ⟨b,2,none⟩ = some (.int .i64 0) from cell_at hB1 2);have f0:w1.frozen? ⟨b,0,none⟩ = false:=free_at hB1 0;have f2:w1.frozen? ⟨b,2,none⟩ = false:=free_at hB1 2;obtain ⟨W2,hW2⟩:∃ W2,(w1.setCell ⟨b,0,none⟩ (.string sy)).setCell ⟨b,2,none⟩ (.int .i64 0) = W2:=⟨_,rfl⟩
 have hB2:BB b sy n W2:=by
  rw [← hW2];exact (set_at (set_at hB1 0 (.string sy)) 2 (.int .i64 0)).trans rfl
 have k2:Kept (· = b) w W2:=by
  rw [← hW2];exact Kept.setCell (T:=fun k => k = b) (Kept.setCell (T:=fun k => k = b) ((Kept.refl _ w).below b1) (p:=⟨b,0,none⟩) (fun _ => rfl) _) (p:=⟨b,2,none⟩) (fun _ => rfl) _
 have HF2:=hid (HF.out W2 k2 hB2);have g2:=(show W2.cell? ⟨b,2,none⟩ = some (.int .i64 0) from cell_at hB2 2);replace hB2:=hid hB2;replace k2:=hid k2;replace hW2:=hid hW2;clear c0 c2 HC b1 hB1;go_wp2_with fail;rw [hW2.out];refine HF2.out.mono ?_
 rintro e w3 ⟨⟨r,rfl,hr⟩,b3⟩;have hB3:w3.heap[b]? = some (.cells #[.string sy,.int .i64 (n:Int),.int .i64 0] 277 (0,0)):=below_at b3 hB2.out (lt_of_block hB2.out);have e2:=(show w3.cell? ⟨b,2,none⟩ = some (.int .i64 0) from cell_at hB3 2);have f3:w3.frozen? ⟨b,2,none⟩ = false:=free_at hB3 2;obtain ⟨W4,hW4⟩:∃ W4,w3.setCell ⟨b,2,none⟩ (.int .i64 0) = W4:=⟨_,rfl⟩
 have hB4:BB b sy n W4:=by
  rw [← hW4];exact (set_at hB3 2 (.int .i64 0)).trans rfl
 have k34:Kept (· = b) w3 W4:=by
  rw [← hW4];exact Kept.setCell (T:=fun k => k = b) (Kept.refl _ w3) (p:=⟨b,2,none⟩) (fun _ => rfl) _
 have hr4:=hid (rd_bb hr hB3 hB4 k34 (.inr rfl));have k4:=hid ((k2.out.below b3).trans k34);replace hB4:=hid hB4;replace hW4:=hid hW4;obtain ⟨ar,cr,er,-⟩:=hr;subst er;clear d0 d2 f0 f2 g2 hB3 b3 HF2 k34 hW2;go_wp2_with fail;rw [hW4.out];go_ret;exact ⟨⟨_,rfl,hr4.out⟩,by first | exact hB4.out | (rw [hsy.out];exact hB4.out),k4.out⟩
theorem next_str (b n:Nat) (x y:List UInt8) (f:Nat) (pc:Value) (m:Nat) (cs:List Value) (w:World) (hB:BB b (str (partL x ++ y)) n w) (hl:x.length + y.length ≤ 100000)
  (E:∀ w1,(callFunc f #[.string (str x),pc]).run Tryz.prog w1 = .ok (.enter f #[.string (str x),pc]) w1)
  (F:∀ w1,Kept (· = b) w w1 → BB b (str y) n w1 → Calls Tryz.prog f #[.string (str x),pc] w1 fun e w' => (∃ r,e = .returned (.tuple #[r,.int .i64 0]) ∧ Rd w' r m cs) ∧ Below w1.heap.size w1 w') :
  Calls Tryz.prog 194 #[.pointer (some ⟨b,0,none⟩),.func (.func f) #[] #[pc]] w fun e w' => (∃ r,e = .returned r ∧ Rd w' r m cs) ∧ BB b (str y) n w' ∧ Kept (· = b) w w':=by
 have HC:=hid (Cut_ok x y w hl);have hlt:=lt_of_block hB;have c0:=(show w.cell? ⟨b,0,none⟩ = some (.string (str (partL x ++ y))) from cell_at hB 0);have c2:=(show w.cell? ⟨b,2,none⟩ = some (.int .i64 0) from cell_at hB 2);have HB:=hid hB;have HF:=hid F;clear hB F;generalize str (partL x ++ y) = s0 at *;generalize str x = sx at *;generalize hsy:str y = sy at *;replace hsy:=hid hsy;go_enter Tryz.func194,Tryz.ntmps194;go_wp2_with fail;refine HC.out.mono ?_
 rintro e w1 ⟨rfl,b1⟩;have hB1:w1.heap[b]? = some (.cells #[.string s0,.int .i64 (n:Int),.int .i64 0] 277 (0,0)):=below_at b1 HB.out hlt;have d0:=(show w1.cell? ⟨b,0,none⟩ = some (.string s0) from cell_at hB1 0);have d2:=(show w1.cell? ⟨b,2,none⟩ = some (.int .i64 0) from cell_at hB1 2);have f0:w1.frozen? ⟨b,0,none⟩ = false:=free_at hB1 0;have f2:w1.frozen? ⟨b,2,none⟩ = false:=free_at hB1 2;obtain ⟨W2,hW2⟩:∃ W2,(w1.setCell ⟨b,0,none⟩ (.string sy)).setCell ⟨b,2,none⟩ (.int .i64 0) = W2:=⟨_,rfl⟩
 have hB2:BB b sy n W2:=by
  rw [← hW2];exact (set_at (set_at hB1 0 (.string sy)) 2 (.int .i64 0)).trans rfl
 have k2:Kept (· = b) w W2:=by
  rw [← hW2];exact Kept.setCell (T:=fun k => k = b) (Kept.setCell (T:=fun k => k = b) ((Kept.refl _ w).below b1) (p:=⟨b,0,none⟩) (fun _ => rfl) _) (p:=⟨b,2,none⟩) (fun _ => rfl) _
 have HF2:=hid (HF.out W2 k2 hB2);have g2:=(show W2.cell? ⟨b,2,none⟩ = some (.int .i64 0) from cell_at hB2 2);replace hB2:=hid hB2;replace k2:=hid k2;replace hW2:=hid hW2;clear c0 c2 HC b1 hB1;go_wp2_with fail;rw [hW2.out];refine HF2.out.mono ?_
 rintro e w3 ⟨⟨r,rfl,hr⟩,b3⟩;have hB3:w3.heap[b]? = some (.cells #[.string sy,.int .i64 (n:Int),.int .i64 0] 277 (0,0)):=below_at b3 hB2.out (lt_of_block hB2.out);have e2:=(show w3.cell? ⟨b,2,none⟩ = some (.int .i64 0) from cell_at hB3 2);have f3:w3.frozen? ⟨b,2,none⟩ = false:=free_at hB3 2;obtain ⟨W4,hW4⟩:∃ W4,w3.setCell ⟨b,2,none⟩ (.int .i64 0) = W4:=⟨_,rfl⟩
 have hB4:BB b sy n W4:=by
  rw [← hW4];exact (set_at hB3 2 (.int .i64 0)).trans rfl
 have k34:Kept (· = b) w3 W4:=by
  rw [← hW4];exact Kept.setCell (T:=fun k => k = b) (Kept.refl _ w3) (p:=⟨b,2,none⟩) (fun _ => rfl) _
 have hr4:=hid (rd_bb hr hB3 hB4 k34 (.inr rfl));have k4:=hid ((k2.out.below b3).trans k34);replace hB4:=hid hB4;replace hW4:=hid hW4;obtain ⟨ar,cr,er,-⟩:=hr;subst er;clear d0 d2 f0 f2 g2 hB3 b3 HF2 k34 hW2;go_wp2_with fail;rw [hW4.out];go_ret;exact ⟨⟨_,rfl,hr4.out⟩,by first | exact hB4.out | (rw [hsy.out];exact hB4.out),k4.out⟩
theorem last_int (b n:Nat) (y:List UInt8) (f:Nat) (pc:Value) (R:Value → World → Prop) (hR:∀ r W W',R r W → BB b (str y) n W → BB b (str y) n W' → Kept (· = b) W W' → R r W') (hRs:∀ r W,R r W → ∃ a n c,r = .slice a n c) (w:World) (hB:BB b (str y) n w)
  (E:∀ w1,(callFunc f #[.string (str y),pc]).run Tryz.prog w1 = .ok (.enter f #[.string (str y),pc]) w1)
  (F:∀ w1,Kept (· = b) w w1 → BB b (str y) n w1 → Calls Tryz.prog f #[.string (str y),pc] w1 fun e w' => (∃ r,e = .returned (.tuple #[r,.int .i64 0]) ∧ R r w') ∧ Below w1.heap.size w1 w') :
  Calls Tryz.prog 200 #[.pointer (some ⟨b,0,none⟩),.func (.func f) #[] #[pc]] w fun e w' => (∃ r,e = .returned r ∧ R r w') ∧ BB b (str y) n w' ∧ Kept (· = b) w w':=by
 have HR:=hid hR;have HRs:=hid hRs;have c0:=(show w.cell? ⟨b,0,none⟩ = some (.string (str y)) from cell_at hB 0);have c2:=(show w.cell? ⟨b,2,none⟩ = some (.int .i64 0) from cell_at hB 2);have HB:=hid hB;have HF2:=hid (F w (Kept.refl _ _) hB);clear hB F hR hRs;generalize hsy:str y = sy at *;replace hsy:=hid hsy;go_enter Tryz.func200,Tryz.ntmps200;go_wp2_with fail;refine HF2.out.mono ?_
 rintro e w3 ⟨⟨r,rfl,hr⟩,b3⟩;have hB3:w3.heap[b]? = some (.cells #[.string sy,.int .i64 (n:Int),.int .i64 0] 277 (0,0)):=below_at b3 HB.out (lt_of_block HB.out);have e2:=(show w3.cell? ⟨b,2,none⟩ = some (.int .i64 0) from cell_at hB3 2);have f3:w3.frozen? ⟨b,2,none⟩ = false:=free_at hB3 2;obtain ⟨W4,hW4⟩:∃ W4,w3.setCell ⟨b,2,none⟩ (.int .i64 0) = W4:=⟨_,rfl⟩
 have hB4:BB b sy n W4:=by
  rw [← hW4];exact (set_at hB3 2 (.int .i64 0)).trans rfl
 have k34:Kept (· = b) w3 W4:=by
  rw [← hW4];exact Kept.setCell (T:=fun k => k = b) (Kept.refl _ w3) (p:=⟨b,2,none⟩) (fun _ => rfl) _
 have hr4:=hid (HR.out r w3 W4 hr hB3 hB4 k34);have k4:=hid (((Kept.refl (· = b) w).below b3).trans k34);replace hB4:=hid hB4;replace hW4:=hid hW4;obtain ⟨ar,nr,cr,er⟩:=HRs.out r w3 hr;subst er;clear c0 c2 hB3 b3 HF2 k34;go_wp2_with fail;rw [hW4.out];go_ret;exact ⟨⟨_,rfl,hr4.out⟩,by first | exact hB4.out | (rw [hsy.out];exact hB4.out),k4.out⟩
theorem last_flt (b n:Nat) (y:List UInt8) (f:Nat) (pc:Value) (R:Value → World → Prop) (hR:∀ r W W',R r W → BB b (str y) n W → BB b (str y) n W' → Kept (· = b) W W' → R r W') (hRs:∀ r W,R r W → ∃ a n c,r = .slice a n c) (w:World) (hB:BB b (str y) n w)
  (E:∀ w1,(callFunc f #[.string (str y),pc]).run Tryz.prog w1 = .ok (.enter f #[.string (str y),pc]) w1)
  (F:∀ w1,Kept (· = b) w w1 → BB b (str y) n w1 → Calls Tryz.prog f #[.string (str y),pc] w1 fun e w' => (∃ r,e = .returned (.tuple #[r,.int .i64 0]) ∧ R r w') ∧ Below w1.heap.size w1 w') :
  Calls Tryz.prog 196 #[.pointer (some ⟨b,0,none⟩),.func (.func f) #[] #[pc]] w fun e w' => (∃ r,e = .returned r ∧ R r w') ∧ BB b (str y) n w' ∧ Kept (· = b) w w':=by
 have HR:=hid hR;have HRs:=hid hRs;have c0:=(show w.cell? ⟨b,0,none⟩ = some (.string (str y)) from cell_at hB 0);have c2:=(show w.cell? ⟨b,2,none⟩ = some (.int .i64 0) from cell_at hB 2);have HB:=hid hB;have HF2:=hid (F w (Kept.refl _ _) hB);clear hB F hR hRs;generalize hsy:str y = sy at *;replace hsy:=hid hsy;go_enter Tryz.func196,Tryz.ntmps196;go_wp2_with fail;refine HF2.out.mono ?_
 rintro e w3 ⟨⟨r,rfl,hr⟩,b3⟩;have hB3:w3.heap[b]? = some (.cells #[.string sy,.int .i64 (n:Int),.int .i64 0] 277 (0,0)):=below_at b3 HB.out (lt_of_block HB.out);have e2:=(show w3.cell? ⟨b,2,none⟩ = some (.int .i64 0) from cell_at hB3 2);have f3:w3.frozen? ⟨b,2,none⟩ = false:=free_at hB3 2;obtain ⟨W4,hW4⟩:∃ W4,w3.setCell ⟨b,2,none⟩ (.int .i64 0) = W4:=⟨_,rfl⟩
 have hB4:BB b sy n W4:=by
  rw [← hW4];exact (set_at hB3 2 (.int .i64 0)).trans rfl
 have k34:Kept (· = b) w3 W4:=by
  rw [← hW4];exact Kept.setCell (T:=fun k => k = b) (Kept.refl _ w3) (p:=⟨b,2,none⟩) (fun _ => rfl) _
 have hr4:=hid (HR.out r w3 W4 hr hB3 hB4 k34);have k4:=hid (((Kept.refl (· = b) w).below b3).trans k34);replace hB4:=hid hB4;replace hW4:=hid hW4;obtain ⟨ar,nr,cr,er⟩:=HRs.out r w3 hr;subst er;clear c0 c2 hB3 b3 HF2 k34;go_wp2_with fail;rw [hW4.out];go_ret;exact ⟨⟨_,rfl,hr4.out⟩,by first | exact hB4.out | (rw [hsy.out];exact hB4.out),k4.out⟩
theorem tm1 (p b n:Nat) (s0:ByteArray) (l:List Int) (w:World) (hp:w.heap[p]? = some (.cells #[.pointer (some ⟨b,0,none⟩)] 274 (0,0))) (hB:BB b s0 n w) (hn:l.length = n) (hb:∀ n ∈ l,-9223372036854775808 ≤ n ∧ n ≤ 9223372036854775807) (hl:l.length ≤ 900) :
  Calls Tryz.prog 199 #[.string (str (dEnc l)),.pointer (some ⟨p,0,none⟩)] w fun e w' => (∃ r,e = .returned (.tuple #[r,.int .i64 0]) ∧ Rd w' r l.length (l.map i64C)) ∧ Below w.heap.size w w':=by
 subst hn;have HD:=hid (decD hb hl w);have c0:=(show w.cell? ⟨p,0,none⟩ = some (.pointer (some ⟨b,0,none⟩)) from cell_at hp 0);have c1:=(show w.cell? ⟨b,1,none⟩ = some (.int .i64 (l.length:Nat)) from cell_at hB 1);generalize (str (dEnc l)) = s at *;go_enter Tryz.func199,Tryz.ntmps199;go_wp2_with fail;refine HD.out.mono ?_
 rintro e w1 ⟨⟨r,rfl,hr⟩,b1⟩;replace b1:=hid b1;replace hr:=hid hr;obtain ⟨ar,cr,er,-⟩:=hr.out;subst er;clear HD;go_wp2_with fail;go_ret2;exact ⟨⟨_,rfl,hr.out⟩,b1.out⟩
theorem tr1 (p b n:Nat) (s0:ByteArray) (l:List Int) (w:World) (hp:w.heap[p]? = some (.cells #[.pointer (some ⟨b,0,none⟩)] 274 (0,0))) (hB:BB b s0 n w) (hn:l.length = n) (hb:∀ n ∈ l,-9223372036854775808 ≤ n ∧ n ≤ 9223372036854775807) (hl:l.length ≤ 900) :
  Calls Tryz.prog 192 #[.string (str (dEnc l)),.pointer (some ⟨p,0,none⟩)] w fun e w' => (∃ r,e = .returned (.tuple #[r,.int .i64 0]) ∧ Rd w' r l.length (l.map i64C)) ∧ Below w.heap.size w w':=by
 subst hn;have HD:=hid (decD hb hl w);have c0:=(show w.cell? ⟨p,0,none⟩ = some (.pointer (some ⟨b,0,none⟩)) from cell_at hp 0);have c1:=(show w.cell? ⟨b,1,none⟩ = some (.int .i64 (l.length:Nat)) from cell_at hB 1);generalize (str (dEnc l)) = s at *;go_enter Tryz.func192,Tryz.ntmps192;go_wp2_with fail;refine HD.out.mono ?_
 rintro e w1 ⟨⟨r,rfl,hr⟩,b1⟩;replace b1:=hid b1;replace hr:=hid hr;obtain ⟨ar,cr,er,-⟩:=hr.out;subst er;clear HD;go_wp2_with fail;go_ret2;exact ⟨⟨_,rfl,hr.out⟩,b1.out⟩
theorem tr2 (p b n:Nat) (s0:ByteArray) (l:List ByteArray) (w:World) (hp:w.heap[p]? = some (.cells #[.pointer (some ⟨b,0,none⟩)] 274 (0,0))) (hB:BB b s0 n w) (hn:l.length = n) (hb:∀ s ∈ l,s.size ≤ 64 ∧ Wd.validU s = true) (hl:l.length ≤ 400) :
  Calls Tryz.prog 195 #[.string (str (Dc.encDict l)),.pointer (some ⟨p,0,none⟩)] w fun e w' => (∃ r,e = .returned (.tuple #[r,.int .i64 0]) ∧ Rd w' r l.length (l.map strC)) ∧ Below w.heap.size w w':=by
 subst hn;have HD:=hid (Dc.decode_any l w hl hb);have c0:=(show w.cell? ⟨p,0,none⟩ = some (.pointer (some ⟨b,0,none⟩)) from cell_at hp 0);have c1:=(show w.cell? ⟨b,1,none⟩ = some (.int .i64 (l.length:Nat)) from cell_at hB 1);generalize (str (Dc.encDict l)) = s at *;go_enter Tryz.func195,Tryz.ntmps195;go_wp2_with fail;refine HD.out.mono ?_
 rintro e w1 ⟨⟨r,rfl,hr⟩,b1⟩;replace b1:=hid b1;replace hr:=hid (rd_sl hr);obtain ⟨ar,cr,er,-⟩:=hr.out;subst er;clear HD;go_wp2_with fail;go_ret2;exact ⟨⟨_,rfl,hr.out⟩,b1.out⟩
theorem tr3 (p b n:Nat) (s0:ByteArray) (l:List Nat) (w:World) (hp:w.heap[p]? = some (.cells #[.pointer (some ⟨b,0,none⟩)] 274 (0,0))) (hB:BB b s0 n w) (hn:l.length = n) (hb:∀ z ∈ l,z < 2 * Fl.S) (hl:l.length ≤ 400) :
  Calls Tryz.prog 197 #[.string (str (ranksL l)),.pointer (some ⟨p,0,none⟩)] w fun e w' => (∃ r L,e = .returned (.tuple #[r,.int .i64 0]) ∧ Rl.Flts w' r L ∧ L.map Fl.canon = l.map Fl.canon) ∧ Below w.heap.size w w':=by
 subst hn;have HD:=hid (takeRanks_ok l hb hl w);have c0:=(show w.cell? ⟨p,0,none⟩ = some (.pointer (some ⟨b,0,none⟩)) from cell_at hp 0);have c1:=(show w.cell? ⟨b,1,none⟩ = some (.int .i64 (l.length:Nat)) from cell_at hB 1);generalize (str (ranksL l)) = s at *;go_enter Tryz.func197,Tryz.ntmps197;go_wp2_with fail;refine HD.out.mono ?_
 rintro e w1 ⟨⟨r,L,rfl,hr,hc⟩,b1⟩;replace b1:=hid b1;obtain ⟨ar,cr,er,-⟩:=hr.val;subst er;replace hr:=hid hr;replace hc:=hid hc;clear HD;go_wp2_with fail;go_ret2;exact ⟨⟨_,L,rfl,hr.out,hc.out⟩,b1.out⟩
end Sn
end
section
open Go.RowKit Go.Shelf
attribute [local go_sem] Fl.run_store_float
namespace Sn
open Mem Tp Tr Mo Pk Og
theorem enterTM (args:Array Value) (w:World):(callFunc 199 args).run Tryz.prog w = .ok (.enter 199 args) w:=by simp [go_sem]
theorem marks_eq (l:List Mk):colsB (marksC l) = putL l.length ++ (partL (dEnc (l.map (fun m:Mk => m.rep))) ++ dEnc (l.map (fun m:Mk => m.cnt))):=by
 unfold colsB marksC;simp only [List.flatMap_cons,List.flatMap_nil,List.append_nil]
 rfl
theorem rd_slice {W:World} {v:Value} {n:Nat} {cs:List Value} (h:Rd W v n cs):∃ a n c,v = .slice a n c:=by
 obtain ⟨a,cap,e,-⟩:=h;exact ⟨a,n,cap,e⟩
theorem rd_cell {W:World} {v:Value} {n:Nat} {cs:List Value} (h:Rd W v n cs) {k:Nat} {u:Value} (hu:cs[k]? = some u) (hk:k < n):∃ b off cap,v = .slice (some ⟨b,off,none⟩) n cap ∧ b < W.heap.size ∧ W.cell? ⟨b,off + k,none⟩ = some u:=by
 obtain ⟨a,cap,e,h3⟩:=h;obtain ⟨b,off,e1,e2,e3⟩:=h3 (by omega);exact ⟨b,off,cap,by rw [e,e1],e2,e3 k u hu⟩
theorem takeMarks_ok (l:List Mk) (w:World) (hl:l.length ≤ 250) (hok:Mr.okMks l) :
  Calls Tryz.prog 147 #[.string (str (colsB (marksC l)))] w fun e w' => (∃ v,e = .returned (.tuple #[v,.int .i64 0]) ∧ Mem.Mks w' v l ∧ ∀ k,v.ownBlock = some k → w.heap.size ≤ k ∧ k < w'.heap.size) ∧ Below w.heap.size w w':=by
 obtain ⟨j0,hj,hy0,hy1,hy2⟩:=info_parts infoMk
 have hm:∀ (f:Mk → Int),(∀ x ∈ l,-9223372036854775808 ≤ f x ∧ f x ≤ 9223372036854775807) → ∀ n ∈ l.map f,-9223372036854775808 ≤ n ∧ n ≤ 9223372036854775807:=fun f hf n hn => by
  obtain ⟨x,hx,rfl⟩:=List.mem_map.1 hn;exact hf x hx
 have hlm:∀ (f:Mk → Int),(l.map f).length = l.length:=fun f => List.length_map ..
 have hz1:=dEnc_len (l.map (fun m:Mk => m.rep));have hz2:=dEnc_len (l.map (fun m:Mk => m.cnt));have hz3:=partL_len (dEnc (l.map (fun m:Mk => m.rep)));rw [hlm] at hz1 hz2;have hb1:=hm (fun m:Mk => m.rep) (fun x hx => by have:=hok.1 x hx;omega);have hb2:=hm (fun m:Mk => m.cnt) (fun x hx => by have:=hok.1 x hx;omega);have HOp:=hid (open_ok l.length 255 (partL (dEnc (l.map (fun m:Mk => m.rep))) ++ dEnc (l.map (fun m:Mk => m.cnt))) w (by omega) (by decide) (by rw [List.length_append];omega))
 have HN:=hid (fun (p b:Nat) (W:World) (hp:W.heap[p]? = some (.cells #[.pointer (some ⟨b,0,none⟩)] 274 (0,0))) (hB:BB b (str (partL (dEnc (l.map (fun m:Mk => m.rep))) ++ dEnc (l.map (fun m:Mk => m.cnt)))) l.length W) (hne:p ≠ b) =>
  next_int b l.length (dEnc (l.map (fun m:Mk => m.rep))) (dEnc (l.map (fun m:Mk => m.cnt))) 199 (.pointer (some ⟨p,0,none⟩)) l.length ((l.map (fun m:Mk => m.rep)).map i64C) W hB (by omega) (fun w1 => enterTM _ w1)
   (fun w1 hk hb => by
    have:=tm1 p b l.length _ (l.map (fun m:Mk => m.rep)) w1 (hk.at hp hne) hb (hlm _) hb1 (by rw [hlm];omega);rw [hlm] at this
    exact this))
 have HL:=hid (fun (p b:Nat) (W:World) (hp:W.heap[p]? = some (.cells #[.pointer (some ⟨b,0,none⟩)] 274 (0,0))) (hB:BB b (str (dEnc (l.map (fun m:Mk => m.cnt)))) l.length W) (hne:p ≠ b) =>
  last_int b l.length (dEnc (l.map (fun m:Mk => m.cnt))) 199 (.pointer (some ⟨p,0,none⟩)) (fun r W => Rd W r l.length ((l.map (fun m:Mk => m.cnt)).map i64C)) (fun r A B h1 h2 h3 h4 => rd_bb h1 h2 h3 h4 (.inr rfl)) (fun r A h => rd_slice h) W hB (fun w1 => enterTM _ w1)
   (fun w1 hk hb => by
    have:=tm1 p b l.length _ (l.map (fun m:Mk => m.cnt)) w1 (hk.at hp hne) hb (hlm _) hb2 (by rw [hlm];omega);rw [hlm] at this
    exact this))
 have hOk:=hid hok;rw [marks_eq];clear hok hm hlm hz1 hz2 hz3 hb1 hb2;generalize str (putL l.length ++ (partL (dEnc (l.map (fun m:Mk => m.rep))) ++ dEnc (l.map (fun m:Mk => m.cnt)))) = s0 at *;generalize str (partL (dEnc (l.map (fun m:Mk => m.rep))) ++ dEnc (l.map (fun m:Mk => m.cnt))) = s1 at *;generalize str (dEnc (l.map (fun m:Mk => m.cnt))) = s2 at *
 have hmf:∀ (fn:Fn) (first cap:Array Value) (w:World),(Instr.makeFunc fn first cap).run Tryz.prog w = .ok (.func fn first cap) w:=fun _ _ _ _ => rfl
 go_enter Tryz.func147,Tryz.ntmps147;go_wp2_with fail;refine HOp.out.mono ?_
 rintro e w1 ⟨⟨g,rfl,hg,hB⟩,b1⟩;have hgl:=lt_of_block hB;have hB1:BB g s1 l.length (w1.alloc (.cells #[.pointer (some ⟨g,0,none⟩)] 274)):=alloc_at _ hB;have hp1:=alloc_new w1 (.cells #[.pointer (some ⟨g,0,none⟩)] 274);have b2:=b1.alloc b1.size (.cells #[.pointer (some ⟨g,0,none⟩)] 274);have hs1:=b1.size
 have hne:w1.heap.size ≠ g:=by omega
 obtain ⟨W2,hW2⟩:∃ W2,w1.alloc (.cells #[.pointer (some ⟨g,0,none⟩)] 274) = W2:=⟨_,rfl⟩;rw [hW2] at hB1 hp1 b2
 have hs2:W2.heap.size = w1.heap.size + 1:=by rw [← hW2];simp
 replace hW2:=hid hW2;clear hB b1
 go_upto_region 3 with fail
 rw [hW2.out];generalize w1.heap.size = p at *
 have K:∀ W:World,W.heap[p]? = some (.cells #[.pointer (some ⟨g,0,none⟩)] 274 (0,0)) → Below w.heap.size w W → W.cell? ⟨p,0,none⟩ = some (.pointer (some ⟨g,0,none⟩)) ∧ W.heap[p]? = some (.cells #[.pointer (some ⟨g,0,none⟩)] 274 (0,0)) ∧ Below w.heap.size w W:=fun W h1 h2 => ⟨cell_at h1 0,h1,h2⟩
 replace K:=hid K;replace hB1:=hid hB1;replace hp1:=hid hp1;replace b2:=hid b2;clear hW2 HOp hmf
 go_region_held3 (fun W:World => W.cell? ⟨p,0,none⟩ = some (.pointer (some ⟨g,0,none⟩)) ∧ W.heap[p]? = some (.cells #[.pointer (some ⟨g,0,none⟩)] 274 (0,0)) ∧ Below w.heap.size w W)
  (first | assumption | exact K.out _ hp1.out b2.out.drew | exact K.out _ hp5.out b5.out | exact K.out _ hp6.out b6.out)
  ((first
   | (go_at_call 193;(refine (HN.out p g _ (show (World.drew W2).heap[p]? = _ from hp1.out) (show BB g s1 l.length W2.drew from hB1.out) hne).mono ?_);rintro e w5 ⟨⟨r1,rfl,hr1⟩,hB5,k5⟩;have hp5:=hid (k5.at (show (World.drew W2).heap[p]? = _ from hp1.out) hne);have b5:=hid (b2.out.drew.trans (k5.to_below (B:=w.heap.size) (Nat.le_trans b2.out.size (Nat.le_refl _)) (fun i hi e => by omega)));replace hr1:=hid hr1;replace hB5:=hid hB5;clear k5;obtain ⟨a5,n5,c5,e5⟩:=rd_slice hr1.out;subst e5)
   | (go_at_call 200;(refine (HL.out p g _ hp5.out hB5.out hne).mono ?_);rintro e w6 ⟨⟨r2,rfl,hr2⟩,hB6,k6⟩;have hr16:=hid (rd_bb hr1.out hB5.out hB6 k6 (.inr rfl));have hp6:=hid (k6.at hp5.out hne);have b6:=hid (b5.out.trans (k6.to_below (B:=w.heap.size) b5.out.size (fun i hi e => by omega)));replace hr2:=hid hr2;replace hB6:=hid hB6;clear k6;obtain ⟨a6,n6,c6,e6⟩:=rd_slice hr2.out;subst e6)))
 all_goals
  obtain ⟨f1,f2,-⟩:=K.out w6 hp6.out b6.out;have g1:=(show w6.cell? ⟨g,1,none⟩ = some (.int .i64 (l.length:Nat)) from cell_at hB6.out 1);have g2:=(show w6.cell? ⟨g,2,none⟩ = some (.int .i64 0) from cell_at hB6.out 2);clear HN HL K f2 hB1 hp1 b2 hp5 b5 hB5 hr1 hp6 hB6 hne;go_wp2_with fail
  go_loopw [8,32] (fun v i wr => ∃ k:Nat,i = .int .i64 k ∧ k ≤ l.length ∧ Hid (wr.ownsRow w6.heap.size 112 2 v k ((l.take k).flatMap mkC)) ∧ Hid (Below w6.heap.size w6 wr)) (fun _ i _ => l.length - (intOf i).toNat)
  case atStart => exact ⟨0,rfl,by omega,hid (World.ownsRow_nil _ _ _ _),hid (Below.refl _ _)⟩
  case round =>
   obtain ⟨k,rfl,hk,hO,hb⟩:=hrel
   by_cases hlt:k < l.length
   ·have hlt':(k:Int) < (l.length:Nat):=by omega
    obtain ⟨x,hx⟩:=some_at hlt;obtain ⟨d1,o1,p1,e1,hd1,q1⟩:=rd_cell (hr16.out) (k:=k) (u:=.int .i64 x.rep) (by rw [List.map_map,List.getElem?_map,hx];rfl) hlt;obtain ⟨d2,o2,p2,e2,hd2,q2⟩:=rd_cell (hr2.out) (k:=k) (u:=.int .i64 x.cnt) (by rw [List.map_map,List.getElem?_map,hx];rfl) hlt;simp only [Value.slice.injEq] at e1 e2;obtain ⟨rfl,rfl,rfl⟩:=e1;obtain ⟨rfl,rfl,rfl⟩:=e2
    have KS:∀ W,Below w6.heap.size w6 W → W.cell? ⟨d1,o1 + k,none⟩ = some (.int .i64 x.rep) ∧ W.cell? ⟨d2,o2 + k,none⟩ = some (.int .i64 x.cnt) ∧ Below w6.heap.size w6 W:=fun W h => ⟨(h.cell (p:=⟨d1,o1 + k,none⟩) hd1).trans q1,(h.cell (p:=⟨d2,o2 + k,none⟩) hd2).trans q2,h⟩
    replace KS:=hid KS;have hwk:=hid (take_snoc hx);have hsz:=hb.out.size;obtain ⟨av,cv,ev⟩:=(own_sl hO.out).len;subst ev;have hOa:=hid ((hO.out.alloc (.cells #[.int .i64 x.rep,.int .i64 x.cnt] 112)));clear hx q1 q2
    go_upto_region 10 with fail
    go_region_held3 (fun W:World => W.cell? ⟨d1,o1 + k,none⟩ = some (.int .i64 x.rep) ∧ W.cell? ⟨d2,o2 + k,none⟩ = some (.int .i64 x.cnt) ∧ Below w6.heap.size w6 W)
     (first | assumption | exact KS.out _ hb.out.drew | exact KS.out _ (hb.out.alloc hsz _).drew)
     ((refine step_append_src (by rfl) (.tmp 35) (.tmp 45) 32 (by rfl) w6.heap.size 112 j0 _ 2 16 Tryz.underlying32 hj hy0 hy1 hy2 rfl (by decide) _ k ((l.take k).flatMap mkC) (by rfl) ?_ _ 1 (mkC x) (by rfl) (mkC_len _) ?_ (mkC_one _) (by unfold maxLen;omega) (by omega) (by simp;omega) ?_;exact own_below hOa.out (Below.refl _ _).drew;exact src_new (alloc_new wr _) _;intro v5 w5 hown5 hgrow5;obtain ⟨a5',k5',e5'⟩:=(own_sl hown5).len;subst e5';have hO5:=hid hown5;have hb5:=hid ((hb.out.alloc hsz (.cells #[.int .i64 x.rep,.int .i64 x.cnt] 112)).drew.grown hgrow5 (by simp;omega) (fun j e => (hO.out.lt j e).1));have hS5:=KS.out _ hb5.out;clear hown5 hgrow5))
    all_goals
     have hO6:Hid (w5.ownsRow w6.heap.size 112 2 (.slice a5' (k + 1) k5') (k + 1) ((l.take (k + 1)).flatMap mkC)):=hid (by rw [hwk.out,flat_snoc];exact hO5.out);clear KS hS5;go_wp2_with fail
     go_roundw
     case rel => exact ⟨k + 1,by go_num,by omega,hO6,hb5⟩
     case measure => simp [intOf];omega
   ·obtain rfl:k = l.length:=by omega
    have hge:¬ ((l.length:Int) < (l.length:Nat)):=by omega
    rw [List.take_length] at hO;have hMy:=hid (Mr.may_ok u8 l wr (own_sl hO.out) (by omega) hOk.out);have hlo:=hid hO.out.lt;have hs6:=b6.out.size;obtain ⟨av,cv,ev⟩:=(own_sl hO.out).len;subst ev;go_wp2_with fail;refine hMy.out.mono ?_
    rintro e z ⟨rfl,bz⟩;have hOz:=hid (own_below hO.out bz);have bf:=hid (b6.out.trans ((hb.out.trans (bz.mono hb.out.size)).mono hs6));clear bz;go_wp2_with fail;go_ret2;exact ⟨⟨_,rfl,own_sl hOz.out,fun k e => by have:=hOz.out.lt k e;omega⟩,bf.out⟩
end Sn
end
section
namespace Og
open Tp Mo
def withRkR (l:List Rw) (L:List Nat):List Rw:=List.zipWith (fun m k => { m with rk:=k }) l L
theorem withRkR_len {l:List Rw} {L:List Nat} (h:L.length = l.length):(withRkR l L).length = l.length:=by unfold withRkR;rw [List.length_zipWith,h,Nat.min_self]
theorem withRkR_at {l:List Rw} {L:List Nat} {k:Nat} {x:Rw} {z:Nat} (hx:l[k]? = some x) (hz:L[k]? = some z):(withRkR l L)[k]? = some { x with rk:=z }:=by
 unfold withRkR;rw [List.getElem?_zipWith,hx,hz]
theorem withRkR_nrm {L:List Nat}:∀ {l:List Rw},L.map Fl.canon = (l.map (fun m => m.rk)).map Fl.canon → (withRkR l L).map nrmR = l.map nrmR:=by
 induction L with
 | nil =>
  intro l h
  cases l with
  | nil => rfl
  | cons m l => simp at h
 | cons z L ih =>
  intro l h
  cases l with
  | nil => simp at h
  | cons m l =>
   simp only [List.map_cons,List.cons.injEq] at h
   show nrmR { m with rk:=z } :: (withRkR l L).map nrmR = _
   rw [ih h.2,List.map_cons];unfold nrmR;simp only;rw [h.1]
theorem withRkR_mem {l:List Rw} {L:List Nat} {m:Rw} (h:m ∈ withRkR l L):(∃ x ∈ l,m = { x with rk:=m.rk }) ∧ m.rk ∈ L:=by
 unfold withRkR at h;rw [List.mem_iff_getElem?] at h;obtain ⟨k,hk⟩:=h;rw [List.getElem?_zipWith] at hk
 cases h1:l[k]? with
 | none => rw [h1] at hk;simp at hk
 | some x =>
  cases h2:L[k]? with
  | none => rw [h1,h2] at hk;simp at hk
  | some z =>
   rw [h1,h2] at hk;simp only [Option.some.injEq] at hk;subst hk;exact ⟨⟨x,List.mem_of_getElem? h1,rfl⟩,List.mem_of_getElem? h2⟩
def EqR (l l':List Rw):Prop:=l'.map nrmR = l.map nrmR ∧ ∀ x ∈ l',x.rk < 2 * Fl.S
theorem nrm_len {l l':List Rw} (h:l'.map nrmR = l.map nrmR):l'.length = l.length:=by have:=congrArg List.length h;simpa using this
theorem nrm_at {l l':List Rw} (h:l'.map nrmR = l.map nrmR) {k:Nat} {x:Rw} (hx:l'[k]? = some x):∃ y,l[k]? = some y ∧ nrmR x = nrmR y:=by
 have h1:(l'.map nrmR)[k]? = some (nrmR x):=by rw [List.getElem?_map,hx];rfl
 rw [h,List.getElem?_map] at h1;obtain ⟨y,hy,e⟩:=Option.map_eq_some_iff.1 h1;exact ⟨y,hy,e.symm⟩
theorem nrm_mem {l l':List Rw} (h:l'.map nrmR = l.map nrmR) {x:Rw} (hx:x ∈ l'):∃ y ∈ l,nrmR x = nrmR y:=by
 obtain ⟨k,hk⟩:=List.getElem?_of_mem hx;obtain ⟨y,hy,e⟩:=nrm_at h hk;exact ⟨y,List.mem_of_getElem? hy,e⟩
theorem nrm_ch {x y:Rw} (h:nrmR x = nrmR y):x.ch = y.ch:=show (nrmR x).ch = (nrmR y).ch by rw [h]
theorem nrm_pa {x y:Rw} (h:nrmR x = nrmR y):x.pa = y.pa:=show (nrmR x).pa = (nrmR y).pa by rw [h]
theorem one_nrm (x:Rw):Tr.oneR (nrmR x) = Tr.oneR x:=rfl
theorem one_eq {x y:Rw} (h:nrmR x = nrmR y):Tr.oneR x = Tr.oneR y:=by rw [← one_nrm x,← one_nrm y,h]
theorem up_nrm (l:List Rw) (x:Int):up (l.map nrmR) x = up l x:=by
 unfold up;rw [List.find?_map,Option.map_map]
 rfl
theorem chain_nrm (l:List Rw):∀ (n:Nat) (x:Int),chain (l.map nrmR) n x = chain l n x
 | 0,_ => rfl
 | n + 1,x => by
  rw [chain,chain,up_nrm]
  cases up l x with
  | none => rfl
  | some p => simp only;rw [chain_nrm l n p]
theorem above_nrm (l:List Rw) (a b:Int):above (l.map nrmR) a b = above l a b:=by
 unfold above;rw [List.length_map,chain_nrm]
theorem above_eq {l l':List Rw} (h:l'.map nrmR = l.map nrmR) (a b:Int):above l' a b = above l a b:=by rw [← above_nrm l',h,above_nrm]
theorem ch_eq {l l':List Rw} (h:l'.map nrmR = l.map nrmR):l'.map (·.ch) = l.map (·.ch):=by
 have:=congrArg (List.map (fun r:Rw => r.ch)) h;rw [List.map_map,List.map_map] at this;exact this
theorem rise_eq {l l':List Rw} (h:l'.map nrmR = l.map nrmR) (hr:l.Pairwise (fun a b => a.ch < b.ch)):l'.Pairwise (fun a b => a.ch < b.ch):=by
 have h1:(l.map (·.ch)).Pairwise (· < ·):=List.pairwise_map.2 hr;rw [← ch_eq h] at h1;exact List.pairwise_map.1 h1
end Og
end
section
open Go.RowKit Go.Shelf
attribute [local go_sem] Fl.run_store_float
namespace Sn
open Mem Tp Tr Mo Pk Og
theorem enterTR1 (args:Array Value) (w:World):(callFunc 192 args).run Tryz.prog w = .ok (.enter 192 args) w:=by simp [go_sem]
theorem enterTR2 (args:Array Value) (w:World):(callFunc 195 args).run Tryz.prog w = .ok (.enter 195 args) w:=by simp [go_sem]
theorem enterTR3 (args:Array Value) (w:World):(callFunc 197 args).run Tryz.prog w = .ok (.enter 197 args) w:=by simp [go_sem]
theorem rows_eq (l:List Rw):colsB (rowsC l) = putL l.length ++ (partL (dEnc (l.map (fun m:Rw => m.ch))) ++ (partL (dEnc (l.map (fun m:Rw => m.pa))) ++ (partL (Dc.encDict (l.map (fun m:Rw => m.nm))) ++ ranksL (l.map (fun m:Rw => m.rk))))):=by
 unfold colsB rowsC;simp only [List.flatMap_cons,List.flatMap_nil,List.append_nil]
 rfl
theorem ints_rd {W:World} {v:Value} {l:List Int} (h:Rd W v l.length (l.map i64C)) (hb:∀ n ∈ l,IntKind.i64.min ≤ n ∧ n ≤ IntKind.i64.max):Opened.Ints .i64 W v l:=by
 obtain ⟨a,cap,rfl,h3⟩:=h;refine ⟨⟨a,cap,rfl,fun h0 => ?_⟩,hb⟩
 obtain ⟨b,off,e,hlt,hc⟩:=h3 h0;refine ⟨b,off,e,hlt,fun j hj => hc j _ ?_⟩
 rw [List.getElem?_map,List.getElem?_eq_getElem hj];simp [i64C,List.getD,List.getElem?_eq_getElem hj]
theorem rise_true:∀ {l:List Int},l.Pairwise (· < ·) → Dl.rise l = true
 | [],_ => rfl
 | a :: l,h => by
  rw [List.pairwise_cons] at h;have ih:=rise_true h.2
  cases l with
  | nil => rfl
  | cons b l =>
   show (decide (a < b) && Dl.rise (b :: l)) = true
   rw [ih,Bool.and_true];exact decide_eq_true (h.1 b (List.mem_cons_self ..))
theorem takeRows_ok (l:List Rw) (w:World) (hl:l.length ≤ 250) (hone:∀ x ∈ l,oneR x = true) (hk:∀ x ∈ l,x.rk < 2 * Fl.S) (hrise:l.Pairwise (fun a b => a.ch < b.ch)) (hac:∀ x ∈ l,above l x.ch x.ch = false) :
  Calls Tryz.prog 146 #[.string (str (colsB (rowsC l)))] w fun e w' => (∃ v l',e = .returned (.tuple #[v,.int .i64 0]) ∧ Mem.Rows w' v l' ∧ EqR l l' ∧ ∀ k,v.ownBlock = some k → w.heap.size ≤ k ∧ k < w'.heap.size) ∧ Below w.heap.size w w':=by
 obtain ⟨j0,hj,hy0,hy1,hy2⟩:=info_parts infoRow
 have hin:∀ x ∈ l,(1 ≤ x.ch ∧ x.ch ≤ 2147483647 ∧ 0 ≤ x.pa ∧ x.pa ≤ 2147483647 ∧ x.nm.size ≤ 64) ∧ Wd.validU x.nm = true:=fun x hx => Fo.oneR_in (hone x hx)
 have hm:∀ (f:Rw → Int),(∀ x ∈ l,-9223372036854775808 ≤ f x ∧ f x ≤ 9223372036854775807) → ∀ n ∈ l.map f,-9223372036854775808 ≤ n ∧ n ≤ 9223372036854775807:=fun f hf n hn => by
  obtain ⟨x,hx,rfl⟩:=List.mem_map.1 hn;exact hf x hx
 have hlm:∀ {β:Type} (f:Rw → β),(l.map f).length = l.length:=fun f => List.length_map ..
 have hz1:=dEnc_len (l.map (fun m:Rw => m.ch));have hz2:=dEnc_len (l.map (fun m:Rw => m.pa))
 have hb3:∀ s ∈ l.map (fun m:Rw => m.nm),s.size ≤ 64 ∧ Wd.validU s = true:=fun s hs => by
  obtain ⟨x,hx,rfl⟩:=List.mem_map.1 hs;have:=hin x hx;exact ⟨by omega,this.2⟩
 have hz3:=Dc.encDict_len (fun s hs => (hb3 s hs).1);have hz4:=ranksL_len (l.map (fun m:Rw => m.rk));have hp1:=partL_len (dEnc (l.map (fun m:Rw => m.ch)));have hp2:=partL_len (dEnc (l.map (fun m:Rw => m.pa)));have hp3:=partL_len (Dc.encDict (l.map (fun m:Rw => m.nm)));rw [hlm] at hz1 hz2 hz3 hz4;have hb1:=hm (fun m:Rw => m.ch) (fun x hx => by have:=(hin x hx).1;omega);have hb2:=hm (fun m:Rw => m.pa) (fun x hx => by have:=(hin x hx).1;omega)
 have hb4:∀ z ∈ l.map (fun m:Rw => m.rk),z < 2 * Fl.S:=fun s hs => by
  obtain ⟨x,hx,rfl⟩:=List.mem_map.1 hs;exact hk x hx
 obtain ⟨T4,hT4⟩:∃ T,ranksL (l.map (fun m:Rw => m.rk)) = T:=⟨_,rfl⟩;obtain ⟨T3,hT3⟩:∃ T,partL (Dc.encDict (l.map (fun m:Rw => m.nm))) ++ T4 = T:=⟨_,rfl⟩;obtain ⟨T2,hT2⟩:∃ T,partL (dEnc (l.map (fun m:Rw => m.pa))) ++ T3 = T:=⟨_,rfl⟩;obtain ⟨T1,hT1⟩:∃ T,partL (dEnc (l.map (fun m:Rw => m.ch))) ++ T2 = T:=⟨_,rfl⟩
 have hl4:T4.length ≤ 20 + 40 * l.length:=by rw [← hT4];exact hz4
 have hl3:T3.length = (partL (Dc.encDict (l.map (fun m:Rw => m.nm)))).length + T4.length:=by rw [← hT3,List.length_append]
 have hl2:T2.length = (partL (dEnc (l.map (fun m:Rw => m.pa)))).length + T3.length:=by rw [← hT2,List.length_append]
 have hl1:T1.length = (partL (dEnc (l.map (fun m:Rw => m.ch)))).length + T2.length:=by rw [← hT1,List.length_append]
 have HOp:=hid (open_ok l.length 2000 T1 w (by omega) (by decide) (by omega))
 have HN1:=hid (fun (p b:Nat) (W:World) (hp:W.heap[p]? = some (.cells #[.pointer (some ⟨b,0,none⟩)] 274 (0,0))) (hB:BB b (str T1) l.length W) (hne:p ≠ b) =>
  next_int b l.length (dEnc (l.map (fun m:Rw => m.ch))) T2 192 (.pointer (some ⟨p,0,none⟩)) l.length ((l.map (fun m:Rw => m.ch)).map i64C) W (by rw [hT1];exact hB) (by omega) (fun w1 => enterTR1 _ w1)
   (fun w1 hk hb => by
    have:=tr1 p b l.length _ (l.map (fun m:Rw => m.ch)) w1 (hk.at hp hne) hb (hlm _) hb1 (by rw [hlm];omega);rw [hlm] at this
    exact this))
 have HN2:=hid (fun (p b:Nat) (W:World) (hp:W.heap[p]? = some (.cells #[.pointer (some ⟨b,0,none⟩)] 274 (0,0))) (hB:BB b (str T2) l.length W) (hne:p ≠ b) =>
  next_int b l.length (dEnc (l.map (fun m:Rw => m.pa))) T3 192 (.pointer (some ⟨p,0,none⟩)) l.length ((l.map (fun m:Rw => m.pa)).map i64C) W (by rw [hT2];exact hB) (by omega) (fun w1 => enterTR1 _ w1)
   (fun w1 hk hb => by
    have:=tr1 p b l.length _ (l.map (fun m:Rw => m.pa)) w1 (hk.at hp hne) hb (hlm _) hb2 (by rw [hlm];omega);rw [hlm] at this
    exact this))
 have HN3:=hid (fun (p b:Nat) (W:World) (hp:W.heap[p]? = some (.cells #[.pointer (some ⟨b,0,none⟩)] 274 (0,0))) (hB:BB b (str T3) l.length W) (hne:p ≠ b) =>
  next_str b l.length (Dc.encDict (l.map (fun m:Rw => m.nm))) T4 195 (.pointer (some ⟨p,0,none⟩)) l.length ((l.map (fun m:Rw => m.nm)).map strC) W (by rw [hT3];exact hB) (by omega) (fun w1 => enterTR2 _ w1)
   (fun w1 hk hb => by
    have:=tr2 p b l.length _ (l.map (fun m:Rw => m.nm)) w1 (hk.at hp hne) hb (hlm _) hb3 (by rw [hlm];omega);rw [hlm] at this
    exact this))
 have HL:=hid (fun (p b:Nat) (W:World) (hp:W.heap[p]? = some (.cells #[.pointer (some ⟨b,0,none⟩)] 274 (0,0))) (hB:BB b (str T4) l.length W) (hne:p ≠ b) =>
  last_flt b l.length T4 197 (.pointer (some ⟨p,0,none⟩)) (fun r W => ∃ L:List Nat,Rd W r l.length (L.map fltC) ∧ (∀ z ∈ L,z < 2 * Fl.S) ∧ L.map Fl.canon = (l.map (fun m:Rw => m.rk)).map Fl.canon) (fun r A B h1 h2 h3 h4 => by
    obtain ⟨L,q1,q2,q3⟩:=h1
    exact ⟨L,rd_bb q1 h2 h3 h4 (.inr rfl),q2,q3⟩) (fun r A h => by
    obtain ⟨L,q1,-⟩:=h
    exact rd_slice q1) W hB (fun w1 => enterTR3 _ w1)
   (fun w1 hk hb => by
    have:=tr3 p b l.length _ (l.map (fun m:Rw => m.rk)) w1 (hk.at hp hne) hb (hlm _) hb4 (by rw [hlm];omega);rw [hT4] at this;refine this.mono ?_
    rintro e w2 ⟨⟨r,L,he,hf,hc⟩,hb⟩
    have hll:L.length = l.length:=by have:=congrArg List.length hc;rw [List.length_map,List.length_map,List.length_map] at this;exact this
    exact ⟨⟨r,he,L,by have:=rd_flts hf;rwa [hll] at this,hf.bound,hc⟩,hb⟩))
 have HRs:=hid (fun (v:Value) (W:World) (h:Rd W v l.length ((l.map (fun m:Rw => m.ch)).map i64C)) => Dl.rising_any v (l.map (fun m:Rw => m.ch)) W (ints_rd (by rw [hlm];exact h) hb1) (by rw [hlm];omega));rw [rise_true (l:=l.map (fun m:Rw => m.ch)) (List.pairwise_map.2 hrise)] at HRs;rw [rows_eq,hT4,hT3,hT2,hT1];have HIN:=hid hin;have H1:=hid hone;have H2:=hid hrise;have H3:=hid hac;clear hone hrise hac hin hk hm hlm hz1 hz2 hz3 hz4 hp1 hp2 hp3 hb1 hb2 hb3 hb4 hl1 hl2 hl3 hl4 hT1 hT2 hT3 hT4;generalize str (putL l.length ++ T1) = s0 at *
 have hmf:∀ (fn:Fn) (first cap:Array Value) (w:World),(Instr.makeFunc fn first cap).run Tryz.prog w = .ok (.func fn first cap) w:=fun _ _ _ _ => rfl
 go_enter Tryz.func146,Tryz.ntmps146;go_wp2_with fail;refine HOp.out.mono ?_
 rintro e w1 ⟨⟨g,rfl,hg,hB⟩,b1⟩;have hgl:=lt_of_block hB;have hB1:BB g (str T1) l.length (w1.alloc (.cells #[.pointer (some ⟨g,0,none⟩)] 274)):=alloc_at _ hB;have hp1:=alloc_new w1 (.cells #[.pointer (some ⟨g,0,none⟩)] 274);have b2:=b1.alloc b1.size (.cells #[.pointer (some ⟨g,0,none⟩)] 274);have hs1:=b1.size
 have hne:w1.heap.size ≠ g:=by omega
 obtain ⟨W2,hW2⟩:∃ W2,w1.alloc (.cells #[.pointer (some ⟨g,0,none⟩)] 274) = W2:=⟨_,rfl⟩;rw [hW2] at hB1 hp1 b2
 have hs2:W2.heap.size = w1.heap.size + 1:=by rw [← hW2];simp
 replace hW2:=hid hW2;clear hB b1
 go_upto_region 3 with fail
 rw [hW2.out];generalize w1.heap.size = p at *
 have K:∀ W:World,W.heap[p]? = some (.cells #[.pointer (some ⟨g,0,none⟩)] 274 (0,0)) → Below w.heap.size w W → W.cell? ⟨p,0,none⟩ = some (.pointer (some ⟨g,0,none⟩)) ∧ W.heap[p]? = some (.cells #[.pointer (some ⟨g,0,none⟩)] 274 (0,0)) ∧ Below w.heap.size w W:=fun W h1 h2 => ⟨cell_at h1 0,h1,h2⟩
 replace K:=hid K;replace hB1:=hid hB1;replace hp1:=hid hp1;replace b2:=hid b2;have hI1:=hid (fun (u:Value) (h:u ∈ (l.map (fun m:Rw => m.ch)).map i64C) (t:ByteArray) => (show u ≠ .string t by obtain ⟨x,-,rfl⟩:=List.mem_map.1 h;intro e;cases e));have hI2:=hid (fun (u:Value) (h:u ∈ (l.map (fun m:Rw => m.pa)).map i64C) (t:ByteArray) => (show u ≠ .string t by obtain ⟨x,-,rfl⟩:=List.mem_map.1 h;intro e;cases e));clear hW2 HOp
 go_region_held3 (fun W:World => W.cell? ⟨p,0,none⟩ = some (.pointer (some ⟨g,0,none⟩)) ∧ W.heap[p]? = some (.cells #[.pointer (some ⟨g,0,none⟩)] 274 (0,0)) ∧ Below w.heap.size w W)
  (first | assumption | exact K.out _ hp1.out b2.out.drew | exact K.out _ hp6.out b6.out | exact K.out _ hp5.out b5.out)
  ((first
   | (go_at_call 193;(refine (HN2.out p g _ hp5.out hB5.out hne).mono ?_);rintro e w6 ⟨⟨r2,rfl,hr2⟩,hB6,k6⟩;have hr16:=hid (rd_bb hr1.out hB5.out hB6 k6 (.inl hI1.out));have hp6:=hid (k6.at hp5.out hne);have b6:=hid (b5.out.trans (k6.to_below (B:=w.heap.size) b5.out.size (fun i hi e => by omega)));replace hr2:=hid hr2;replace hB6:=hid hB6;clear k6;obtain ⟨a6,n6,c6,e6⟩:=rd_slice hr2.out;subst e6)
   | (go_at_call 193;(refine (HN1.out p g _ (show (World.drew W2).heap[p]? = _ from hp1.out) (show BB g (str T1) l.length W2.drew from hB1.out) hne).mono ?_);rintro e w5 ⟨⟨r1,rfl,hr1⟩,hB5,k5⟩;have hp5:=hid (k5.at (show (World.drew W2).heap[p]? = _ from hp1.out) hne);have b5:=hid (b2.out.drew.trans (k5.to_below (B:=w.heap.size) (Nat.le_trans b2.out.size (Nat.le_refl _)) (fun i hi e => by omega)));replace hr1:=hid hr1;replace hB5:=hid hB5;clear k5;obtain ⟨a5,n5,c5,e5⟩:=rd_slice hr1.out;subst e5)))
 all_goals
  have f6:=(K.out w6 hp6.out b6.out).1;have H3':=hid (HN3.out p g w6 hp6.out hB6.out hne);clear HN1 HN2 HN3 hr1 hB1 hB5 hp1 b2 hp5 b5;go_wp2_with fail;refine H3'.out.mono ?_
  rintro e w7 ⟨⟨r3,rfl,hr3⟩,hB7,k7⟩;have hr17:=hid (rd_bb hr16.out hB6.out hB7 k7 (.inl hI1.out));have hr27:=hid (rd_bb hr2.out hB6.out hB7 k7 (.inl hI2.out));have hp7:=hid (k7.at hp6.out hne);have b7:=hid (b6.out.trans (k7.to_below (B:=w.heap.size) b6.out.size (fun i hi e => by omega)));obtain ⟨a7,n7,c7,e7⟩:=rd_slice hr3;subst e7;replace hr3:=hid hr3;replace hB7:=hid hB7;have f7:=(K.out w7 hp7.out b7.out).1;have H4':=hid (HL.out p g w7 hp7.out hB7.out hne);clear H3' HL f6 hr16 hr2 hB6 hp6 b6 k7;go_wp2_with fail;refine H4'.out.mono ?_
  rintro e w8 ⟨⟨r4,rfl,L,hr4,hLb,hLc⟩,hB8,k8⟩;have hr18:=hid (rd_bb hr17.out hB7.out hB8 k8 (.inr rfl));have hr28:=hid (rd_bb hr27.out hB7.out hB8 k8 (.inr rfl));have hr38:=hid (rd_bb hr3.out hB7.out hB8 k8 (.inr rfl));have hp8:=k8.at hp7.out hne;have b8:=hid (b7.out.trans (k8.to_below (B:=w.heap.size) b7.out.size (fun i hi e => by omega)))
  have hLl:L.length = l.length:=by have:=congrArg List.length hLc;rw [List.length_map,List.length_map,List.length_map] at this;exact this
  obtain ⟨a8,n8,c8,e8⟩:=rd_slice hr4;subst e8;have f8:=(K.out w8 hp8 b8.out).1;have g1:=(show w8.cell? ⟨g,1,none⟩ = some (.int .i64 (l.length:Nat)) from cell_at hB8 1);have g2:=(show w8.cell? ⟨g,2,none⟩ = some (.int .i64 0) from cell_at hB8 2);replace hr4:=hid hr4;replace hLb:=hid hLb;replace hLc:=hid hLc;clear H4' f7 hr17 hr27 hr3 hB7 hp7 b7 k8 hB8 hp8 K hI1 hI2 hne hmf;go_wp2_with fail;have hWl:=hid (withRkR_len hLl)
  go_loopw [10,41] (fun v i wr => ∃ k:Nat,i = .int .i64 k ∧ k ≤ l.length ∧ Hid (wr.ownsRow w8.heap.size 96 4 v k (((withRkR l L).take k).flatMap rowC)) ∧ Hid (Below w8.heap.size w8 wr)) (fun _ i _ => l.length - (intOf i).toNat)
  case atStart => exact ⟨0,rfl,by omega,hid (World.ownsRow_nil _ _ _ _),hid (Below.refl _ _)⟩
  case round =>
   obtain ⟨k,rfl,hk,hO,hb⟩:=hrel
   by_cases hlt:k < l.length
   ·have hlt':(k:Int) < (l.length:Nat):=by omega
    obtain ⟨x,hx⟩:=some_at hlt;obtain ⟨z,hz⟩:=some_at (show k < L.length by omega);have hxm:=List.mem_of_getElem? hx;have hin:=HIN.out x hxm;obtain ⟨d1,o1,p1,e1,hd1,q1⟩:=rd_cell (hr18.out.below hb.out) (k:=k) (u:=.int .i64 x.ch) (by rw [List.map_map,List.getElem?_map,hx];rfl) hlt;obtain ⟨d2,o2,p2,e2,hd2,q2⟩:=rd_cell (hr28.out.below hb.out) (k:=k) (u:=.int .i64 x.pa) (by rw [List.map_map,List.getElem?_map,hx];rfl) hlt
    obtain ⟨d3,o3,p3,e3,hd3,q3⟩:=rd_cell (hr38.out.below hb.out) (k:=k) (u:=.string x.nm) (by rw [List.map_map,List.getElem?_map,hx];rfl) hlt;obtain ⟨d4,o4,p4,e4,hd4,q4⟩:=rd_cell (hr4.out.below hb.out) (k:=k) (u:=.float .f64 z) (by rw [List.getElem?_map,hz];rfl) hlt;simp only [Value.slice.injEq] at e1 e2 e3 e4;obtain ⟨rfl,rfl,rfl⟩:=e1;obtain ⟨rfl,rfl,rfl⟩:=e2;obtain ⟨rfl,rfl,rfl⟩:=e3;obtain ⟨rfl,rfl,rfl⟩:=e4;have hwk:=hid (take_snoc (withRkR_at hx hz));have hone:oneR { x with rk:=z } = true:=H1.out x hxm
    have HO:=hid (fun W => Tr.one_any { x with rk:=z } W (by show x.nm.size ≤ 100000;omega));rw [hone] at HO;unfold rowV at HO
    dsimp only at HO
    have hszr:=hb.out.size;have hlo:=hid hO.out.lt
    have qa1:=fun o => (((Below.refl wr.heap.size wr).alloc (Nat.le_refl _) o).cell (p:=⟨d1,o1 + k,none⟩) hd1).trans q1
    have qa2:=fun o => (((Below.refl wr.heap.size wr).alloc (Nat.le_refl _) o).cell (p:=⟨d2,o2 + k,none⟩) hd2).trans q2
    have qa3:=fun o => (((Below.refl wr.heap.size wr).alloc (Nat.le_refl _) o).cell (p:=⟨d3,o3 + k,none⟩) hd3).trans q3
    have qa4:=fun o => (((Below.refl wr.heap.size wr).alloc (Nat.le_refl _) o).cell (p:=⟨d4,o4 + k,none⟩) hd4).trans q4
    clear hx hz hxm hin hone
    go_upto_region 12 with fail
    go_cut [12] (fun v12 wx => ∃ g,v12 = .pointer (some ⟨g,0,none⟩) ∧ wr.heap.size ≤ g ∧ Hid (wx.heap[g]? = some (.cells #[.int .i64 x.ch,.int .i64 x.pa,.string x.nm,.float .f64 z] 96 (0,0))) ∧ Hid (Below wr.heap.size wr wx))
    case first =>
     go_region
     all_goals
      go_wp2_with fail
      go_meet
      exact ⟨_,rfl,Nat.le_refl _,hid (alloc_new wr _),hid ((Below.refl _ _).alloc (Nat.le_refl _) _).drew⟩
    case rest =>
     obtain ⟨gx,rfl,hgx,hgx1,hbx⟩:=hcut;clear q1 q2 q3 q4 qa1 qa2 qa3 qa4;have e0:=(show wc.cell? ⟨gx,0,none⟩ = some (.int .i64 x.ch) from cell_at hgx1.out 0);have e1:=(show wc.cell? ⟨gx,1,none⟩ = some (.int .i64 x.pa) from cell_at hgx1.out 1);have e2:=(show wc.cell? ⟨gx,2,none⟩ = some (.string x.nm) from cell_at hgx1.out 2);have e3:=(show wc.cell? ⟨gx,3,none⟩ = some (.float .f64 z) from cell_at hgx1.out 3);go_wp2_with fail;refine (HO.out _).mono ?_
     rintro e w2 ⟨rfl,b2⟩;clear e0 e1 e2 e3;have hb3:=hbx.out.trans (b2.mono hbx.out.size);have hgx2:=below_at b2 hgx1.out (lt_of_block hgx1.out);have e0:=(show w2.cell? ⟨gx,0,none⟩ = some (.int .i64 x.ch) from cell_at hgx2 0);have e1:=(show w2.cell? ⟨gx,1,none⟩ = some (.int .i64 x.pa) from cell_at hgx2 1);have e2:=(show w2.cell? ⟨gx,2,none⟩ = some (.string x.nm) from cell_at hgx2 2);have e3:=(show w2.cell? ⟨gx,3,none⟩ = some (.float .f64 z) from cell_at hgx2 3);have hO2:=hid (own_below hO.out hb3);have hbb:=hid (hb.out.trans (hb3.mono hszr))
     have hs2:=hb3.size;obtain ⟨ay,cy,ey⟩:=(own_sl hO2.out).len;subst ey;clear b2 hb3 hgx2 hO HO hgx1 hbx hb
     go_wp2_with (at_builtin;refine wpList_append_src (by rfl) _ _ 31 (by rfl) w8.heap.size 96 j0 _ 4 40 Tryz.underlying31 hj hy0 hy1 hy2 rfl (by decide) _ k (((withRkR l L).take k).flatMap rowC) (by rfl) (World.ownsRow.alloc hO2.out _) _ 1 (rowC { x with rk:=z }) (by rfl) (rowC_len _) (src_new (alloc_new w2 _) _) (rowC_one _) (by unfold maxLen;omega) (by omega) (by simp;omega) ?_;intro v5 w5 hown5 hgrow5;obtain ⟨a5,k5,e5'⟩:=(own_sl hown5).len;subst e5';have hO5:=hid hown5;have hb5:=hid ((hbb.out.alloc (by omega) (.cells #[.int .i64 x.ch,.int .i64 x.pa,.string x.nm,.float .f64 z] 96)).grown hgrow5 (by simp;omega) (fun j e => (hO2.out.lt j e).1));clear hown5 hgrow5)
     have hOf:Hid (w5.ownsRow w8.heap.size 96 4 (.slice a5 (k + 1) k5) (k + 1) (((withRkR l L).take (k + 1)).flatMap rowC)):=hid (by
      rw [hwk.out,flat_snoc]
      exact hO5.out)
     go_roundw
     case rel => exact ⟨k + 1,by go_num,by omega,hOf,hb5⟩
     case measure => simp [intOf];omega
   ·obtain rfl:k = l.length:=by omega
    have hge:¬ ((l.length:Int) < (l.length:Nat)):=by omega
    rw [List.take_of_length_le (by rw [hWl.out];exact Nat.le_refl _)] at hO;have hEq:=withRkR_nrm hLc.out
    have hRw:Mem.Rows wr u10 (withRkR l L):=by
     have:=own_sl hO.out;unfold Mem.Rows;rw [hWl.out];exact this
    have hone':∀ x ∈ withRkR l L,oneR x = true:=fun x hx => by
     obtain ⟨y,hy,e⟩:=nrm_mem hEq hx;rw [one_eq e];exact H1.out y hy
    have hrs':=rise_eq hEq H2.out
    have hac':∀ x ∈ withRkR l L,above (withRkR l L) x.ch x.ch = false:=fun x hx => by
     obtain ⟨y,hy,e⟩:=nrm_mem hEq hx;rw [above_eq hEq,nrm_ch e];exact H3.out y hy
    have HMy:=hid (fun (W:World) (h:Below wr.heap.size wr W) => Tr.may_ok u10 (withRkR l L) W (hRw.below h) (by rw [hWl.out];omega) hone' (fun x h => by have:=(Fo.oneR_in (hone' x h)).1;omega) (fun j a b h k => Fo.pw_adj hrs' j a b h k) (Fo.rise_nodup hrs') (fun x h => Fo.oneR_r (hone' x h)) hac');have HR1:=hid (HRs.out _ wr (hr18.out.below hb.out));have hEq':Hid (EqR l (withRkR l L)):=hid ⟨hEq,fun m h => hLb.out _ (withRkR_mem h).2⟩;have hs8:=b8.out.size;replace hRw:=hid hRw;obtain ⟨av,cv,ev⟩:=(own_sl hO.out).len;subst ev;clear hEq hone' hrs' hac' HRs
    go_wp2_with fail;refine HR1.out.mono ?_
    rintro e z1 ⟨rfl,bz⟩;have HM1:=hid (HMy.out z1 bz);replace bz:=hid bz;clear HMy HR1;go_wp2_with fail;refine HM1.out.mono ?_
    rintro e z2 ⟨rfl,bz2⟩;replace bz2:=hid (bz.out.trans (bz2.mono bz.out.size));clear bz HM1;have hOz:=hid (own_below hO.out bz2.out);have bf:=hid (b8.out.trans ((hb.out.trans (bz2.out.mono hb.out.size)).mono hs8));have hRz:=hid (hRw.out.below bz2.out);go_wp2_with fail;go_ret2;exact ⟨⟨_,_,rfl,hRz.out,hEq'.out,fun k e => by have:=hOz.out.lt k e;omega⟩,bf.out⟩
end Sn
end
section
open Go.RowKit Go.Shelf
attribute [local go_sem] Fl.run_store_float
namespace Sn
open Mem Tp Tr Mo Pk Og Fo
theorem rep_resultsAt (fn:Func) (tc t5:Nat) (hr:fn.results = #[.cell tc 34,.tmp t5]) (tmps:Array Value) (w:World) (B:Nat) (fl:Tm) (vb vl vm:Value) (h:tmps.getD tc undef = .pointer (some ⟨B,0,none⟩)) (hw:w.heap[B]? = some (repO vb fl vl vm)) :
  (results fn tmps).run Tryz.prog w = .ok (.tuple #[repV vb fl vl vm,tmps.getD t5 undef]) w:=by
 unfold repO at hw;have c0:w.cell? ⟨B,0,none⟩ = some vb:=cell_at hw 0;have c1:w.cell? ⟨B,1,none⟩ = some (.int .i64 fl.c):=cell_at hw 1;have c2:w.cell? ⟨B,2,none⟩ = some (.int .i64 fl.r):=cell_at hw 2;have c3:w.cell? ⟨B,3,none⟩ = some vl:=cell_at hw 3;have c4:w.cell? ⟨B,4,none⟩ = some vm:=cell_at hw 4;simp only [results,hr];simp only [Array.getD_eq_getD_getElem?] at h;simp [Sem.run_bind,Result.andThen,h,go_sem];simp [c0,c1,c2,c3,c4]
 rfl
theorem decode_ok (vl:Value) (r:Rp) (w:World) (hC:Ck.Chs w vl (sepC r)) (hW:WfR r) (hk:RkR r) :
  Calls Tryz.prog 111 #[vl] w fun e w' => (∃ vb vm base',e = .returned (.tuple #[repV vb r.fl (.slice none 0 0) vm,.int .i64 0]) ∧ Mem.Rows w' vb base' ∧ EqR r.base base' ∧ Mem.Mks w' vm r.mks ∧
   (∀ k,vb.ownBlock = some k → w.heap.size ≤ k ∧ k < w'.heap.size) ∧ (∀ k,vm.ownBlock = some k → w.heap.size ≤ k ∧ k < w'.heap.size)) ∧ Below w.heap.size w w':=by
 have h1:=hW.len;have h2:=hW.mlen;obtain ⟨f1,f2,f3,f4⟩:=fl_nat hW;obtain ⟨nc,hnc⟩:∃ nc:Nat,r.fl.c = (nc:Int):=⟨r.fl.c.toNat,by omega⟩;obtain ⟨nr,hnr⟩:∃ nr:Nat,r.fl.r = (nr:Int):=⟨r.fl.r.toNat,by omega⟩
 have hx1:colsB [Col.cnt r.fl.c.toNat,.cnt r.fl.r.toNat] = putL nc ++ putL nr:=by rw [hnc,hnr];unfold colsB;simp [colB]
 have hcl:(sepC r).length = 3:=rfl;obtain ⟨a0,cap0,rfl⟩:=(chs_sl hC).len;obtain ⟨cb,co,rfl⟩:=(chs_sl hC).addr (by rw [hcl];decide);rw [hcl]
 have K:∀ W,Below w.heap.size w W → W.cell? ⟨cb,co,none⟩ = some (.int .i64 1) ∧ W.cell? ⟨cb,co + 1,none⟩ = some (.string (str (putL nc ++ putL nr))) ∧ W.cell? ⟨cb,co + 2,none⟩ = some (.int .i64 2) ∧ W.cell? ⟨cb,co + 2 + 1,none⟩ = some (.string (str (colsB (rowsC r.base)))) ∧ W.cell? ⟨cb,co + 4,none⟩ = some (.int .i64 3) ∧ W.cell? ⟨cb,co + 4 + 1,none⟩ = some (.string (str (colsB (marksC r.mks)))):=fun W h => by
  have hc:=Ck.chs_below hC h;have q0:=Ck.chs_at hc (j:=0) (by rw [hcl];decide);have q1:=Ck.chs_at hc (j:=1) (by rw [hcl];decide);have q2:=Ck.chs_at hc (j:=2) (by rw [hcl];decide);exact ⟨q0.2.1,q0.2.2.trans (by rw [← hx1];rfl),q1.2.1,q1.2.2,q2.2.1,q2.2.2⟩
 replace K:=hid K;have HR:=hid (fun (W:World) => takeRows_ok r.base W (by omega) hW.one hk.1 hW.rise hW.acyc);have HM:=hid (fun (W:World) => takeMarks_ok r.mks W (by omega) hW.mks)
 have hwc:IntKind.i64.wrap (nc:Int) = (nc:Int):=by rw [IntKind.wrap_i64];omega
 have hwr:IntKind.i64.wrap (nr:Int) = (nr:Int):=by rw [IntKind.wrap_i64];omega
 have hgc:decide (9223372036854775807 < (nc:Int)) = false:=decide_eq_false (by omega);have hgr:decide (9223372036854775807 < (nr:Int)) = false:=decide_eq_false (by omega)
 have hc1:nc ≤ 4611686018427387903:=by omega
 have hr1:nr ≤ 255:=by omega
 have hb0:=(Below.refl w.heap.size w).alloc (Nat.le_refl _) (.cells #[.slice none 0 0,.int .i64 0,.int .i64 0,.slice none 0 0,.slice none 0 0] 34);have g0:=alloc_new w (.cells #[.slice none 0 0,.int .i64 0,.int .i64 0,.slice none 0 0,.slice none 0 0] 34);obtain ⟨W0,hW0⟩:∃ W0,w.alloc (.cells #[.slice none 0 0,.int .i64 0,.int .i64 0,.slice none 0 0,.slice none 0 0] 34) = W0:=⟨_,rfl⟩;rw [hW0] at hb0 g0
 have hs0:W0.heap.size = w.heap.size + 1:=by rw [← hW0];simp
 obtain ⟨c0,c1,c2,c3,c4,c5⟩:=K.out (w.alloc (.cells #[.slice none 0 0,.int .i64 0,.int .i64 0,.slice none 0 0,.slice none 0 0] 34)) ((Below.refl w.heap.size w).alloc (Nat.le_refl _) _);have HRes:=hid (fun (tmps:Array Value) (W:World) (vb vm:Value) h h' => rep_resultsAt Tryz.f111 2 3 rfl tmps W w.heap.size r.fl vb (.slice none 0 0) vm h h');replace hW0:=hid hW0;have HG:=hid g0;replace hb0:=hid hb0;replace hnc:=hid hnc;replace hnr:=hid hnr;obtain ⟨s0,hs0'⟩:∃ s,str (putL nc ++ putL nr) = s:=⟨_,rfl⟩;rw [hs0'] at c1 K;replace hs0':=hid hs0'
 clear hC hW hk g0 hx1 f1 f2 f3 f4;generalize str (colsB (rowsC r.base)) = s1 at *;generalize str (colsB (marksC r.mks)) = s2 at *;go_enter Tryz.func111,Tryz.ntmps111;go_wp2_with fail;rw [hW0.out];refine (new_any _ _).mono ?_
 rintro e w1 ⟨rfl,hw1⟩;have hB:=hid (show RB (w.heap.size + 1) (putL nc ++ putL nr) w1 by rw [hw1,← hs0'.out,← hs0];exact RB.new _ _);have hb:=hid (show Below W0.heap.size W0 w1 by rw [hw1];exact (Below.refl _ _).alloc (Nat.le_refl _) _);have hl0:=lt_of_block hB.out;clear hw1 c0 c1 c2 c3 c4 c5 hW0;go_wp2_with fail;refine (rb_num hB.out (by unfold W64;omega) (by have:=putL_length nr;omega)).mono ?_
 rintro e w2 ⟨rfl,hB2,k2⟩;have hb2:=hid (hb.out.trans (k2.to_below (B:=W0.heap.size) (by omega) (fun i hi h => by omega)));have hB2':=hid (show RB (w.heap.size + 1) (putL nr ++ []) w2 by rw [List.append_nil];exact hB2);have hs2:=k2.size;clear k2 hB hb hB2;go_wp2_with fail;refine (rb_num hB2'.out (by unfold W64;omega) (by simp)).mono ?_
 rintro e w3 ⟨rfl,hB3,k3⟩;have hb3:=hid (hb2.out.trans (k3.to_below (B:=W0.heap.size) (by omega) (fun i hi h => by omega)));replace hB3:=hid hB3;have hs3:=k3.size;clear k3 hB2' hb2;go_wp2_with fail;refine (rb_done hB3.out).mono ?_
 rintro e w4 ⟨rfl,rfl⟩;have hbw:=hb0.out.trans (hb3.out.mono hb0.out.size);obtain ⟨c0,c1,c2,c3,c4,c5⟩:=K.out w3 hbw;have hbw3:=hbw.size;replace hbw:=hid hbw;clear hB3;go_wp2_with fail;refine (HR.out _).mono ?_
 rintro e w5 ⟨⟨vb,base',rfl,hRb,hEq,hxb⟩,b5⟩;obtain ⟨ab,kb,eb⟩:=hRb.len;subst eb;have hb5:=hid (hb3.out.trans (b5.mono hb3.out.size));have hbw5:=hbw.out.trans (b5.mono hbw3);have hs5:=b5.size;clear c0 c1 c2 c3 c4 c5;obtain ⟨c0,c1,c2,c3,c4,c5⟩:=K.out w5 hbw5;replace hRb:=hid hRb;replace hEq:=hid hEq;replace hxb:=hid hxb;replace hbw5:=hid hbw5;clear b5 hb3 HR;go_wp2_with fail;refine (HM.out _).mono ?_
 rintro e w6 ⟨⟨vm,rfl,hMk,hxm⟩,b6⟩;obtain ⟨am,km,em⟩:=hMk.len;subst em;have hb6:=hb5.out.trans (b6.mono hb5.out.size);have hRb6:=hid (hRb.out.below b6);have hbw6:=hid (hbw5.out.trans (b6.mono hbw5.out.size));have k2:w6.heap[w.heap.size]? = some (.cells #[.slice none 0 0,.int .i64 0,.int .i64 0,.slice none 0 0,.slice none 0 0] 34 (0,0)):=below_at hb6 HG.out (by omega);have hs6:=b6.size
 have ones:Hid (∀ v ∈ [Value.slice ab base'.length kb,.int .i64 (nc:Int),.int .i64 (nr:Int),.slice none 0 0,.slice am r.mks.length km],v.oneCell' = true):=hid (by
  intro v hv;simp only [List.mem_cons,List.not_mem_nil,or_false] at hv
  rcases hv with rfl | rfl | rfl | rfl | rfl <;> rfl)
 replace hMk:=hid hMk;replace hxm:=hid hxm;clear c0 c1 c2 c3 c4 c5 b6 hb6 hb5 HM
 go_wp2_with (refine wpList_store_splice (by rfl) 34 _ _ (by rfl) w.heap.size 0 [.slice ab base'.length kb,.int .i64 (nc:Int),.int .i64 (nr:Int),.slice none 0 0,.slice am r.mks.length km] (by rfl) (by rfl) 34 [.slice none 0 0,.int .i64 0,.int .i64 0,.slice none 0 0,.slice none 0 0] k2 (info_rep.trans rfl) (by simp) ones.out ?_;intro w7 hg7 hB7 hO7)
 have hb9:=hB7.out w.heap.size w hbw6.out (Nat.le_refl _);have hs9:w6.heap.size ≤ w7.heap.size:=(hB7.out 0 _ (Below.refl 0 _) (Nat.zero_le _)).size;refine bodyPost_ret (HRes.out _ w7 (.slice ab base'.length kb) (.slice am r.mks.length km) rfl ?_) rfl ?_
 ·unfold repO
  rw [hnc.out,hnr.out];exact hg7.out.trans rfl
 ·have hx1:=hxb.out
  have hx2:=hxm.out;exact ⟨⟨_,_,_,rfl,sl_same hRb6.out hs9 (fun k e _ => hO7.out k (by have:=hx1 k e;omega)),hEq.out,sl_same hMk.out hs9 (fun k e _ => hO7.out k (by have:=hx2 k e;omega)),(fun k e => by have:=hx1 k e;omega),(fun k e => by have:=hx2 k e;omega)⟩,hb9⟩
end Sn
end
section
open Go.RowKit Go.Shelf
attribute [local go_sem] Fl.run_store_float
namespace Og
open Mem Tp Tr Mo Pk
def D1 (l:List Mv) (bl B:Nat) (w':World):Prop:=∃ v L,VM bl v w' ∧ w'.ownsRow B 49 6 v l.length ((withRk l L).flatMap movC) ∧ L.length = l.length ∧ (∀ z ∈ L,z < 2 * Fl.S) ∧ L.map Fl.canon = (l.map (fun m => m.rk)).map Fl.canon
theorem dec1_ok (l:List Mv) (vl:Value) (bs bl:Nat) (w:World) (h0:w.heap[bs]? = some (.cells #[vl] 53 (0,0))) (hC:Ck.Chs w vl (opC l)) (h2:VM bl (.slice none 0 0) w) (_hne:bs ≠ bl)
  (hl:l.length ≤ 250) (hn:∀ x ∈ l,oneM x = true) (hk:∀ x ∈ l,x.rk < 2 * Fl.S) (hso:l.Pairwise (fun a b => bef a.t b.t = true)) :
  Calls Tryz.prog 149 #[.pointer (some ⟨bs,0,none⟩),.pointer (some ⟨bl,0,none⟩)] w fun e w' => e = .returned (.tuple #[]) ∧ D1 l bl w.heap.size w' ∧ Kept (· = bl) w w':=by
 obtain ⟨j0,hj,hy0,hy1,hy2⟩:=info_parts infoMov
 have hin:∀ x ∈ l,okT x.t ∧ (1 ≤ x.ch ∧ x.ch ≤ 2147483647 ∧ 0 ≤ x.pa ∧ x.pa ≤ 2147483647 ∧ x.nm.size ≤ 64) ∧ Wd.validU x.nm = true:=fun x hx => by
  have h:=Fo.oneM_in (hn x hx);have h2:=Fo.oneR_in h.2;exact ⟨h.1,h2.1,h2.2⟩
 have hm:∀ (f:Mv → Int),(∀ x ∈ l,-9223372036854775808 ≤ f x ∧ f x ≤ 9223372036854775807) → ∀ n ∈ l.map f,-9223372036854775808 ≤ n ∧ n ≤ 9223372036854775807:=fun f hf n hn => by
  obtain ⟨x,hx,rfl⟩:=List.mem_map.1 hn;exact hf x hx
 have hlm:∀ {β:Type} (f:Mv → β),(l.map f).length = l.length:=fun f => List.length_map ..
 have C0:=hid (fun W => count_ok l.length W (by omega));have C1:=hid (fun W => cut_ok (dEnc (l.map (fun m:Mv => m.t.c))) (Rn.encRuns (l.map fun m:Mv => m.t.r.toNat)) W (by have h1:=dEnc_len (l.map (fun m:Mv => m.t.c));have h2:=Rn.encRuns_len (l.map fun m:Mv => m.t.r.toNat);rw [hlm] at h1 h2;omega));have C2:=hid (fun W => decD (l:=l.map (fun m:Mv => m.t.c)) (hm _ (fun x hx => by have:=(hin x hx).1;unfold okT at this;omega)) (by rw [hlm];omega) W)
 have C3:=hid (fun W => Rn.decode_any (l.map fun m:Mv => m.t.r.toNat) W (by rw [hlm];omega) (fun n hn => by
  obtain ⟨x,hx,rfl⟩:=List.mem_map.1 hn;have:=(hin x hx).1;unfold okT at this;unfold W64
  omega))
 have C4:=hid (fun W => cut_ok (dEnc (l.map (fun m:Mv => m.pa))) (dEnc (l.map (fun m:Mv => m.ch))) W (by have h1:=dEnc_len (l.map (fun m:Mv => m.pa));have h2:=dEnc_len (l.map fun m:Mv => m.ch);rw [hlm] at h1 h2;omega));have C5:=hid (fun W => decD (l:=l.map (fun m:Mv => m.pa)) (hm _ (fun x hx => by have:=(hin x hx).2;omega)) (by rw [hlm];omega) W);have C6:=hid (fun W => decD (l:=l.map (fun m:Mv => m.ch)) (hm _ (fun x hx => by have:=(hin x hx).2;omega)) (by rw [hlm];omega) W)
 have C7:=hid (fun W => Dc.decode_any (l.map (fun m:Mv => m.nm)) W (by rw [hlm];omega) (fun n hn => by
  obtain ⟨x,hx,rfl⟩:=List.mem_map.1 hn;have:=hin x hx
  exact ⟨by omega,this.2.2⟩))
 have C8:=hid (fun W => takeRanks_ok (l.map (fun m:Mv => m.rk)) (fun n hn => by
  obtain ⟨x,hx,rfl⟩:=List.mem_map.1 hn
  exact hk x hx) (by rw [hlm];omega) W)
 rw [hlm] at C2 C3 C5 C6 C7 C8;have HIN:=hid hin;have HN:=hid hn;have HQ:=hid hso;have hbl:=lt_of_block h2;have hbs:=lt_of_block h0;obtain ⟨a0,cap0,rfl⟩:=(Sn.chs_sl hC).len;have hcl:(opC l).length = 5:=rfl;obtain ⟨cb,co,rfl⟩:=(Sn.chs_sl hC).addr (by rw [hcl];decide);rw [hcl] at h0
 have K:∀ W,Below w.heap.size w W → W.cell? ⟨bs,0,none⟩ = some (.slice (some ⟨cb,co,none⟩) 5 cap0) ∧ W.cell? ⟨cb,co + 1,none⟩ = some (.string (str (putL l.length))) ∧ W.cell? ⟨cb,co + 2 + 1,none⟩ = some (.string (str (partL (dEnc (l.map (fun m:Mv => m.t.c))) ++ Rn.encRuns (l.map fun m:Mv => m.t.r.toNat)))) ∧
   W.cell? ⟨cb,co + 4 + 1,none⟩ = some (.string (str (partL (dEnc (l.map (fun m:Mv => m.pa))) ++ dEnc (l.map (fun m:Mv => m.ch))))) ∧ W.cell? ⟨cb,co + 6 + 1,none⟩ = some (.string (str (Dc.encDict (l.map (fun m:Mv => m.nm))))) ∧ W.cell? ⟨cb,co + 8 + 1,none⟩ = some (.string (str (ranksL (l.map (fun m:Mv => m.rk))))):=fun W h => by
  have hc:=Ck.chs_below hC h;refine ⟨cell_at (below_at h h0 hbs) 0,?_,?_,?_,?_,?_⟩
  ·exact (Ck.chs_at hc (j:=0) (by rw [hcl];decide)).2.2
  ·exact (Ck.chs_at hc (j:=1) (by rw [hcl];decide)).2.2
  ·exact (Ck.chs_at hc (j:=2) (by rw [hcl];decide)).2.2
  ·exact (Ck.chs_at hc (j:=3) (by rw [hcl];decide)).2.2
  ·exact (Ck.chs_at hc (j:=4) (by rw [hcl];decide)).2.2
 replace K:=hid K;have h2':=hid h2;clear hC h0 h2 hn hk hso hin hm hlm hcl;obtain ⟨k0,k1,-⟩:=K.out w (Below.refl _ _);generalize str (putL l.length) = s0 at *;generalize str (partL (dEnc (l.map (fun m:Mv => m.t.c))) ++ Rn.encRuns (l.map fun m:Mv => m.t.r.toNat)) = s1 at *;generalize str (partL (dEnc (l.map (fun m:Mv => m.pa))) ++ dEnc (l.map (fun m:Mv => m.ch))) = s2 at *;generalize str (Dc.encDict (l.map (fun m:Mv => m.nm))) = s3 at *;generalize str (ranksL (l.map (fun m:Mv => m.rk))) = s4 at *;generalize str (dEnc (l.map (fun m:Mv => m.t.c))) = t1 at *
 generalize str (Rn.encRuns (l.map fun m:Mv => m.t.r.toNat)) = t2 at *;generalize str (dEnc (l.map (fun m:Mv => m.pa))) = t3 at *;generalize str (dEnc (l.map (fun m:Mv => m.ch))) = t4 at *;go_enter Tryz.func149,Tryz.ntmps149;go_wp2_with fail;refine (C0.out _).mono ?_
 rintro e w1 ⟨rfl,b1⟩;obtain ⟨q0,-,q1,-⟩:=K.out _ b1;replace b1:=hid b1;clear k0 k1;go_wp2_with fail;refine (C1.out _).mono ?_
 rintro e w2 ⟨rfl,b2⟩;replace b2:=hid (b1.out.trans (b2.mono b1.out.size));clear q0 q1 b1;go_wp2_with fail;refine (C2.out _).mono ?_
 rintro e w3 ⟨⟨y1,rfl,hY1⟩,b3⟩;replace hY1:=hid hY1;replace b3:=hid (b2.out.trans (b3.mono b2.out.size));clear b2;go_wp2_with fail;refine (got_ints _ _).mono ?_
 rintro e w4 ⟨rfl,rfl⟩;go_wp2_with fail;refine (C3.out _).mono ?_
 rintro e w4 ⟨⟨y2,rfl,hY2⟩,b4⟩;replace hY1:=hid (hY1.out.below b4);replace hY2:=hid (rd_sl hY2);replace b4:=hid (b3.out.trans (b4.mono b3.out.size));clear b3;go_wp2_with fail;refine (got_us _ _).mono ?_
 rintro e w5 ⟨rfl,rfl⟩;obtain ⟨q0,-,-,q1,-⟩:=K.out _ b4.out;go_wp2_with fail;refine (C4.out _).mono ?_
 rintro e w5 ⟨rfl,b5⟩;replace hY1:=hid (hY1.out.below b5);replace hY2:=hid (hY2.out.below b5);replace b5:=hid (b4.out.trans (b5.mono b4.out.size));clear b4 q0 q1;go_wp2_with fail;refine (C5.out _).mono ?_
 rintro e w6 ⟨⟨y3,rfl,hY3⟩,b6⟩;replace hY1:=hid (hY1.out.below b6);replace hY2:=hid (hY2.out.below b6);replace hY3:=hid hY3;replace b6:=hid (b5.out.trans (b6.mono b5.out.size));clear b5;go_wp2_with fail;refine (got_ints _ _).mono ?_
 rintro e w7 ⟨rfl,rfl⟩;go_wp2_with fail;refine (C6.out _).mono ?_
 rintro e w7 ⟨⟨y4,rfl,hY4⟩,b7⟩;replace hY1:=hid (hY1.out.below b7);replace hY2:=hid (hY2.out.below b7);replace hY3:=hid (hY3.out.below b7);replace hY4:=hid hY4;replace b7:=hid (b6.out.trans (b7.mono b6.out.size));clear b6;go_wp2_with fail;refine (got_ints _ _).mono ?_
 rintro e w8 ⟨rfl,rfl⟩;obtain ⟨q0,-,-,-,q1,-⟩:=K.out _ b7.out;go_wp2_with fail;refine (C7.out _).mono ?_
 rintro e w8 ⟨⟨y5,rfl,hY5⟩,b8⟩;replace hY1:=hid (hY1.out.below b8);replace hY2:=hid (hY2.out.below b8);replace hY3:=hid (hY3.out.below b8);replace hY4:=hid (hY4.out.below b8);replace hY5:=hid (rd_sl hY5);replace b8:=hid (b7.out.trans (b8.mono b7.out.size));clear b7 q0 q1;go_wp2_with fail;refine (got_strs _ _).mono ?_
 rintro e w9 ⟨rfl,rfl⟩;obtain ⟨q0,-,-,-,-,q1⟩:=K.out _ b8.out;go_wp2_with fail;refine (C8.out _).mono ?_
 rintro e w9 ⟨⟨y6,L,rfl,hY6,hL⟩,b9⟩;have hLb:=hid hY6.bound
 have hLl:L.length = l.length:=by have:=congrArg List.length hL;rw [List.length_map,List.length_map,List.length_map] at this;exact this
 replace hY1:=hid (hY1.out.below b9);replace hY2:=hid (hY2.out.below b9);replace hY3:=hid (hY3.out.below b9);replace hY4:=hid (hY4.out.below b9);replace hY5:=hid (hY5.out.below b9);replace hY6:=hid (rd_flts hY6);replace b9:=hid (b8.out.trans (b9.mono b8.out.size));replace hL:=hid hL;clear b8 q0 q1;go_wp2_with fail;refine (got_flts _ _).mono ?_
 rintro e w10 ⟨rfl,rfl⟩;have hV:=hid (show VM bl (.slice none 0 0) w9 from (b9.out.block _ hbl).trans h2'.out);clear C0 C1 C2 C3 C4 C5 C6 C7 C8 K;go_wp2_with fail;have hWl:=hid (withRk_len hLl)
 go_loopw [77] (fun i wr => ∃ (k:Nat) (y:Value),i = .int .i64 k ∧ k ≤ l.length ∧ Hid (VM bl y wr) ∧ Hid (wr.ownsRow w9.heap.size 49 6 y k (((withRk l L).take k).flatMap movC)) ∧ Hid (Kept (· = bl) w9 wr)) (fun i _ => l.length - (intOf i).toNat)
 case atStart => exact ⟨0,_,rfl,by omega,hV,hid (World.ownsRow_nil _ _ _ _),hid (Kept.refl _ _)⟩
 case round =>
  obtain ⟨k,y,rfl,hk,hVk,hO,hK⟩:=hrel
  by_cases hlt:k < l.length
  ·have hlt':(k:Int) < (l.length:Nat):=by omega
   obtain ⟨x,hx⟩:=some_at hlt;obtain ⟨z,hz⟩:=some_at (show k < L.length by omega)
   have hns:∀ (f:Mv → Value),(∀ m a n c,f m ≠ .slice a n c) → ∀ a n c,f x ≠ .slice a n c:=fun f h a n c => h x a n c
   have hxm:=List.mem_of_getElem? hx;have hin:=HIN.out x hxm
   have hrr:0 ≤ x.t.r ∧ x.t.r ≤ 255:=by have:=hin.1;unfold okT at this;omega
   have hcv:IntKind.i64.wrap ((x.t.r.toNat:Nat):Int) = x.t.r:=by rw [IntKind.wrap_i64];omega
   obtain ⟨d1,o1,p1,rfl,q1⟩:=rd_at hY1.out hV.out hK.out (k:=k) (u:=.int .i64 x.t.c) (by rw [List.map_map,List.getElem?_map,hx];rfl) (fun _ _ _ e => by cases e) hlt;obtain ⟨d2,o2,p2,rfl,q2⟩:=rd_at hY2.out hV.out hK.out (k:=k) (u:=.int .u64 ((x.t.r.toNat:Nat):Int)) (by rw [List.map_map,List.getElem?_map,hx];rfl) (fun _ _ _ e => by cases e) (by rw [List.length_map];exact hlt);obtain ⟨d3,o3,p3,rfl,q3⟩:=rd_at hY3.out hV.out hK.out (k:=k) (u:=.int .i64 x.pa) (by rw [List.map_map,List.getElem?_map,hx];rfl) (fun _ _ _ e => by cases e) hlt
   obtain ⟨d4,o4,p4,rfl,q4⟩:=rd_at hY4.out hV.out hK.out (k:=k) (u:=.int .i64 x.ch) (by rw [List.map_map,List.getElem?_map,hx];rfl) (fun _ _ _ e => by cases e) hlt;obtain ⟨d5,o5,p5,rfl,q5⟩:=rd_at hY5.out hV.out hK.out (k:=k) (u:=.string x.nm) (by rw [List.map_map,List.getElem?_map,hx];rfl) (fun _ _ _ e => by cases e) (by rw [List.length_map];exact hlt);obtain ⟨d6,o6,p6,rfl,q6⟩:=rd_at hY6.out hV.out hK.out (k:=k) (u:=.float .f64 z) (by rw [List.getElem?_map,hz];rfl) (fun _ _ _ e => by cases e) (by omega)
   have hwk:=hid (take_snoc (withRk_at hx hz));have hone:oneM { x with rk:=z } = true:=HN.out x hxm;have HO:=hid (fun W => Mo.one_any { x with rk:=z } W (by show x.nm.size ≤ 100000;omega));rw [hone] at HO;unfold movV at HO
   dsimp only at HO
   rw [hLl] at *;simp only [List.length_map] at *;generalize ((x.t.r.toNat:Nat):Int) = rr at *;have hlo:=hid hO.out.lt;have hszr:w9.heap.size ≤ wr.heap.size:=hK.out.size;have hwl:=lt_of_block hVk.out;clear hx hz hns hxm hin hrr hone
   go_upto_region 10 with fail
   have qa1:=fun o => (((Below.refl wr.heap.size wr).alloc (Nat.le_refl _) o).cell (p:=⟨d1,o1 + k,none⟩) (World.block_lt_of_cell? _ _ q1)).trans q1
   have qa2:=fun o => (((Below.refl wr.heap.size wr).alloc (Nat.le_refl _) o).cell (p:=⟨d2,o2 + k,none⟩) (World.block_lt_of_cell? _ _ q2)).trans q2
   have qa3:=fun o => (((Below.refl wr.heap.size wr).alloc (Nat.le_refl _) o).cell (p:=⟨d3,o3 + k,none⟩) (World.block_lt_of_cell? _ _ q3)).trans q3
   have qa4:=fun o => (((Below.refl wr.heap.size wr).alloc (Nat.le_refl _) o).cell (p:=⟨d4,o4 + k,none⟩) (World.block_lt_of_cell? _ _ q4)).trans q4
   have qa5:=fun o => (((Below.refl wr.heap.size wr).alloc (Nat.le_refl _) o).cell (p:=⟨d5,o5 + k,none⟩) (World.block_lt_of_cell? _ _ q5)).trans q5
   have qa6:=fun o => (((Below.refl wr.heap.size wr).alloc (Nat.le_refl _) o).cell (p:=⟨d6,o6 + k,none⟩) (World.block_lt_of_cell? _ _ q6)).trans q6
   go_cut [12] (fun v12 wx => ∃ g,v12 = .pointer (some ⟨g,0,none⟩) ∧ wr.heap.size ≤ g ∧ Hid (wx.heap[g]? = some (.cells #[.int .i64 x.t.c,.int .i64 x.t.r,.int .i64 x.pa,.int .i64 x.ch,.string x.nm,.float .f64 z] 49 (0,0))) ∧ Hid (Below wr.heap.size wr wx))
   case first =>
    go_region
    all_goals
     go_wp2_with fail
     go_meet
     exact ⟨_,rfl,Nat.le_refl _,hid (alloc_new wr _),hid ((Below.refl _ _).alloc (Nat.le_refl _) _).drew⟩
   case rest =>
    obtain ⟨g,rfl,hg,hgx,hbx⟩:=hcut;clear q1 q2 q3 q4 q5 q6 qa1 qa2 qa3 qa4 qa5 qa6 hcv;have e0:=(show wc.cell? ⟨g,0,none⟩ = some (.int .i64 x.t.c) from cell_at hgx.out 0);have e1:=(show wc.cell? ⟨g,1,none⟩ = some (.int .i64 x.t.r) from cell_at hgx.out 1);have e2:=(show wc.cell? ⟨g,2,none⟩ = some (.int .i64 x.pa) from cell_at hgx.out 2);have e3:=(show wc.cell? ⟨g,3,none⟩ = some (.int .i64 x.ch) from cell_at hgx.out 3);have e4:=(show wc.cell? ⟨g,4,none⟩ = some (.string x.nm) from cell_at hgx.out 4)
    have e5:=(show wc.cell? ⟨g,5,none⟩ = some (.float .f64 z) from cell_at hgx.out 5);go_wp2_with fail;refine (HO.out _).mono ?_
    rintro e w2 ⟨rfl,b2⟩;clear e0 e1 e2 e3 e4 e5;have hb3:=hbx.out.trans (b2.mono hbx.out.size);have hgx2:=below_at b2 hgx.out (lt_of_block hgx.out);have e0:=(show w2.cell? ⟨g,0,none⟩ = some (.int .i64 x.t.c) from cell_at hgx2 0);have e1:=(show w2.cell? ⟨g,1,none⟩ = some (.int .i64 x.t.r) from cell_at hgx2 1);have e2:=(show w2.cell? ⟨g,2,none⟩ = some (.int .i64 x.pa) from cell_at hgx2 2);have e3:=(show w2.cell? ⟨g,3,none⟩ = some (.int .i64 x.ch) from cell_at hgx2 3);have e4:=(show w2.cell? ⟨g,4,none⟩ = some (.string x.nm) from cell_at hgx2 4)
    have e5:=(show w2.cell? ⟨g,5,none⟩ = some (.float .f64 z) from cell_at hgx2 5);have hO2:=hid (own_below hO.out hb3);have hV2:VM bl y w2:=(hb3.block _ hwl).trans hVk.out;have cv:w2.cell? ⟨bl,0,none⟩ = some y:=cell_at hV2 0;have fv:w2.frozen? ⟨bl,0,none⟩ = false:=free_at hV2 0;have hK2:=hid (hK.out.below hb3);have hs2:=hb3.size;obtain ⟨ay,cy,ey⟩:=(own_sl hO2.out).len;subst ey;replace hV2:=hid hV2;have hbw:=lt_of_block hV.out
    have hal:=hid (alloc_at (.cells #[.int .i64 x.t.c,.int .i64 x.t.r,.int .i64 x.pa,.int .i64 x.ch,.string x.nm,.float .f64 z] 49) hV2.out);clear b2 hb3 hgx2 hO hVk hK HO hgx hbx
    go_wp2_with (at_builtin;refine wpList_append_src (by rfl) _ _ 25 (by rfl) w9.heap.size 49 j0 _ 6 56 Tryz.underlying25 hj hy0 hy1 hy2 rfl (by decide) _ k (((withRk l L).take k).flatMap movC) (by rfl) (World.ownsRow.alloc hO2.out _) _ 1 (movC { x with rk:=z }) (by rfl) (movC_len _) (src_new (alloc_new w2 _) _) (movC_one _) (by unfold maxLen;omega) (by omega) (by simp;omega) ?_;intro v5 w5 hown5 hgrow5;obtain ⟨a5,k5,e5'⟩:=(own_sl hown5).len;subst e5';have hV5:=fam_other hgrow5 hal.out (fun e => by have:=(hO2.out.lt _ e).1;omega);have cv5:=(show w5.cell? ⟨bl,0,none⟩ = some (.slice ay k cy) from cell_at hV5 0);have fv5:w5.frozen? ⟨bl,0,none⟩ = false:=free_at hV5 0;have hV5':=hid hV5;have hO5:=hid hown5;have hK5:=hid ((hK2.out.alloc (.cells #[.int .i64 x.t.c,.int .i64 x.t.r,.int .i64 x.pa,.int .i64 x.ch,.string x.nm,.float .f64 z] 49)).grown hgrow5 (fun j e hj => by have:=(hO2.out.lt j e).1;omega));clear hV5 hown5 hgrow5)
    have hVf:=hid (show VM bl (.slice a5 (k + 1) k5) (w5.setCell ⟨bl,0,none⟩ (.slice a5 (k + 1) k5)) from (set_at hV5'.out 0 _).trans rfl);have hKf:=hid (hK5.out.setCell (p:=⟨bl,0,none⟩) (fun _ => rfl) (.slice a5 (k + 1) k5))
    have hOf:Hid ((w5.setCell ⟨bl,0,none⟩ (.slice a5 (k + 1) k5)).ownsRow w9.heap.size 49 6 (.slice a5 (k + 1) k5) (k + 1) (((withRk l L).take (k + 1)).flatMap movC)):=hid (by
     rw [hwk.out,flat_snoc]
     exact own_kept hO5.out (Kept.setCell (T:=fun k => k = bl) (Kept.refl _ w5) (p:=⟨bl,0,none⟩) (fun _ => rfl) _) (fun i hi e => by omega))
    go_roundw
    case rel => exact ⟨k + 1,_,by go_num,by omega,hVf,hOf,hKf⟩
    case measure => simp [intOf];omega
  ·
   obtain rfl:k = l.length:=by omega
   have hge:¬ ((l.length:Int) < (l.length:Nat)):=by omega
   rw [List.take_of_length_le (by rw [hWl.out];exact Nat.le_refl _)] at hO;have cv:wr.cell? ⟨bl,0,none⟩ = some y:=cell_at hVk.out 0
   have hMv:Mem.Mvs wr y (withRk l L):=by
    have:=own_sl hO.out;unfold Mem.Mvs;rw [hWl.out];exact this
   have HMay:=hid (Mo.may_ok y (withRk l L) wr hMv (by rw [hWl.out];omega) (fun x h => by
    obtain ⟨⟨m,hm,e⟩,-⟩:=withRk_mem h;rw [e]
    exact HN.out m hm) (fun x h => by
    obtain ⟨⟨m,hm,e⟩,-⟩:=withRk_mem h;rw [e];have:=(HIN.out m hm).2.1
    show m.nm.size ≤ 100000
    omega) (fun j a b ha hb => by
    have ht:=withRk_t hLl
    have h1:(l.map (fun m => m.t))[j]? = some a.t:=by rw [← ht,List.getElem?_map,ha];rfl
    have h2:(l.map (fun m => m.t))[j + 1]? = some b.t:=by rw [← ht,List.getElem?_map,hb];rfl
    have hpw:(l.map (fun m:Mv => m.t)).Pairwise (fun a b => bef a b = true):=List.pairwise_map.2 HQ.out
    exact Fo.pw_adj hpw j _ _ h1 h2))
   obtain ⟨ay,cy,ey⟩:=(own_sl hO.out).len;subst ey;go_wp2_with fail;refine HMay.out.mono ?_
   rintro e w2 ⟨rfl,b2⟩;have hV2:VM bl (.slice ay l.length cy) w2:=(b2.block _ (lt_of_block hVk.out)).trans hVk.out;have hO2:=own_below hO.out b2;have hK2:=hK.out.below b2;replace hV2:=hid hV2;replace hO2:=hid hO2;replace hK2:=hid hK2;have hb9s:=b9.out.size;go_wp2_with fail
   go_end0
   exact ⟨rfl,⟨_,L,hV2.out,own_mono hO2.out hb9s,hLl,hLb.out,hL.out⟩,((Kept.of_below (T:=fun k => k = bl) b9.out).trans hK2.out)⟩
end Og
end
section
open Go.RowKit Go.Shelf
attribute [local go_sem] Fl.run_store_float
namespace Og
open Mem Tp Tr Mo Pk
def EqM (l l':List Mv):Prop:=l'.map nrmM = l.map nrmM ∧ ∀ m ∈ l',m.rk < 2 * Fl.S
theorem enterD1 (args:Array Value) (w:World):(callFunc 149 args).run Tryz.prog w = .ok (.enter 149 args) w:=by simp [go_sem]
theorem decode_ok (l:List Mv) (vl:Value) (w:World) (hC:Ck.Chs w vl (opC l)) (hl:l.length ≤ 250) (hn:∀ x ∈ l,oneM x = true) (hk:∀ x ∈ l,x.rk < 2 * Fl.S) (hso:l.Pairwise (fun a b => bef a.t b.t = true)) :
  Calls Tryz.prog 113 #[vl] w fun e w' => (∃ v' l',e = .returned (.tuple #[v',.int .i64 0]) ∧ Mem.Mvs w' v' l' ∧ EqM l l' ∧ (∀ k,v'.ownBlock = some k → w.heap.size ≤ k ∧ k < w'.heap.size)) ∧ Below w.heap.size w w':=by
 have hcl:(opC l).length = 5:=rfl;have hD:=hid (fun (bs bl:Nat) (W:World) h0 h1 h2 h3 => dec1_ok l vl bs bl W h0 h1 h2 h3 hl hn hk hso)
 have K:∀ W,Below w.heap.size w W → Ck.Chs W vl (opC l):=fun W h => Ck.chs_below hC h
 obtain ⟨a0,cap0,rfl⟩:=(Sn.chs_sl hC).len;obtain ⟨cb,co,rfl⟩:=(Sn.chs_sl hC).addr (by rw [hcl];decide);rw [hcl] at hD K ⊢;replace K:=hid K;have hb0:=(Below.refl w.heap.size w).alloc (Nat.le_refl _) (.cells #[.slice (some ⟨cb,co,none⟩) 5 cap0] 53);have g0:=alloc_new w (.cells #[.slice (some ⟨cb,co,none⟩) 5 cap0] 53);obtain ⟨W0,hW0⟩:∃ W0,w.alloc (.cells #[.slice (some ⟨cb,co,none⟩) 5 cap0] 53) = W0:=⟨_,rfl⟩
 have hs0:W0.heap.size = w.heap.size + 1:=by rw [← hW0];simp
 rw [hW0] at hb0 g0;have c0:W0.cell? ⟨w.heap.size,0,none⟩ = some (.slice (some ⟨cb,co,none⟩) 5 cap0):=cell_at g0 0
 have hkn:∀ W,Below w.heap.size w W → ∀ j:Nat,j < 5 → ∃ s:ByteArray,W.cell? ⟨cb,co + j * 2,none⟩ = some (.int .i64 (4 + j:Nat)) ∧ W.cell? ⟨cb,co + j * 2 + 1,none⟩ = some (.string s):=fun W h j hj => by
  have hc:=Ck.chs_at (K.out W h) (j:=j) (by rw [hcl];exact hj);refine ⟨_,hc.2.1.trans ?_,hc.2.2⟩
  match j,hj with
  | 0,_ => rfl
  | 1,_ => rfl
  | 2,_ => rfl
  | 3,_ => rfl
  | 4,_ => rfl
 replace hkn:=hid hkn;have HB:=hid hb0;have HG:=hid g0;replace hW0:=hid hW0;clear hC hb0 g0 hn hk hso;go_enter Tryz.func113,Tryz.ntmps113;go_wp2_with fail;rw [hW0.out]
 go_loopw [13] (fun i wr => ∃ k:Nat,i = .int .i64 k ∧ k ≤ 5 ∧ Hid (Below W0.heap.size W0 wr)) (fun i _ => 5 - (intOf i).toNat)
 case atStart => exact ⟨0,rfl,by omega,hid (Below.refl _ _)⟩
 case round =>
  obtain ⟨k,rfl,hk,hb⟩:=hrel
  by_cases hlt:k < 5
  ·have hlt':(k:Int) < 5:=by omega
   obtain ⟨s,q0,q1⟩:=hkn.out wr (HB.out.trans (hb.out.mono HB.out.size)) k hlt
   have hc4:((4 + k:Nat):Int) = 4 + (k:Int):=by omega
   rw [hc4] at q0
   have hw4:IntKind.i64.wrap (4 + (k:Int)) = 4 + (k:Int):=by rw [IntKind.wrap_i64];omega
   have hw5:IntKind.i64.wrap ((k:Int) + 1) = (k:Int) + 1:=by rw [IntKind.wrap_i64];omega
   have hb':=hid (hb.out.alloc hb.out.size (.cells #[.int .i64 (4 + (k:Int)),.string s] 57));clear hc4;go_wp2_with fail
   go_roundw
   case rel => exact ⟨k + 1,by go_num,by omega,hb'⟩
   case measure => simp [intOf];omega
  ·obtain rfl:k = 5:=by omega
   have hge:¬ ((5:Int) < 5):=by omega
   have hg:=hid (below_at hb.out HG.out (lt_of_block HG.out));have hsz:=hb.out.size;have hb1:=hid (HB.out.trans (hb.out.mono HB.out.size));obtain ⟨Wd,hWd⟩:∃ Wd,wr.alloc (.cells #[.slice none 0 0] 25) = Wd:=⟨_,rfl⟩
   have hgd:VM wr.heap.size (.slice none 0 0) Wd:=by rw [← hWd];exact alloc_new wr _
   have hgs:Wd.heap[w.heap.size]? = some (.cells #[.slice (some ⟨cb,co,none⟩) 5 cap0] 53 (0,0)):=by rw [← hWd];exact alloc_at _ hg.out
   have hbd:Below w.heap.size w Wd:=by rw [← hWd];exact hb1.out.alloc (by have:=hb1.out.size;omega) _
   have hsd:Wd.heap.size = wr.heap.size + 1:=by rw [← hWd];simp
   have HGd:=hid (guard_ok 149 #[.pointer (some ⟨w.heap.size,0,none⟩),.pointer (some ⟨wr.heap.size,0,none⟩)] Wd
    (fun w' => ∃ w0,Below Wd.heap.size Wd w0 ∧ Wd.heap.size < w0.heap.size ∧ D1 l wr.heap.size w0.heap.size w' ∧ Kept (· = wr.heap.size) w0 w') (fun w1 => enterD1 _ w1)
    (fun w1 h hlt => (hD.out w.heap.size wr.heap.size w1 (below_at h hgs (lt_of_block hgs)) (K.out _ (hbd.trans (h.mono hbd.size))) (below_at h hgd (lt_of_block hgd)) (by omega)).mono (fun e w' h3 => ⟨h3.1,h3.2.2.block _ hlt (by omega),w1,h,hlt,h3.2.1,h3.2.2⟩)))
   have hmf:∀ (fn:Fn) (first cap:Array Value) (w:World),(Instr.makeFunc fn first cap).run Tryz.prog w = .ok (.func fn first cap) w:=fun _ _ _ _ => rfl
   replace hWd:=hid hWd;replace hgd:=hid hgd;replace hsd:=hid hsd;replace hbd:=hid hbd;clear hb hg hgs K hkn hD hsz;go_wp2_with fail;rw [hWd.out];refine HGd.out.mono ?_
   rintro e w3 ⟨rfl,w2,⟨w0,k0,k1,⟨v,L,hv,hOw,hLl,hLb,hLc⟩,hkp⟩,rfl⟩;have hs0':=k0.size;have hs2':=hkp.size;have hsd':=hsd.out;obtain ⟨Wf,hWf⟩:∃ Wf,w2.setCell ⟨Wd.heap.size,0,none⟩ (.int .i64 0) = Wf:=⟨_,rfl⟩
   have hzf:Wf.heap.size = w2.heap.size:=by rw [← hWf];simp [World.setCell]
   have hv3:VM wr.heap.size v Wf:=by rw [← hWf];exact set_other hv (p:=⟨Wd.heap.size,0,none⟩) (by show wr.heap.size ≠ Wd.heap.size;omega) _
   have hblk:∀ k,v.ownBlock = some k → w0.heap.size ≤ k ∧ k < w2.heap.size:=fun k e => hOw.lt k e
   have hMv:Mem.Mvs Wf v (withRk l L):=by
    have h9:=own_sl hOw;unfold Mem.Mvs;rw [withRk_len hLl];exact sl_same h9 (by omega) (fun k e _ => by rw [← hWf];exact setCell_heap_other (by show k ≠ Wd.heap.size;have:=hblk k e;omega))
   have hwd:=hbd.out.size
   have hbf:Below w.heap.size w Wf:=by
    rw [← hWf];refine ((hbd.out.trans (k0.mono hwd)).trans (hkp.to_below (by omega) (fun k hk e => by have:=HB.out.size;have:=hb1.out.size;omega))).setCell (p:=⟨Wd.heap.size,0,none⟩) (by show w.heap.size ≤ Wd.heap.size;omega) _
   rw [hWf];have cv:=(show Wf.cell? ⟨wr.heap.size,0,none⟩ = some v from cell_at hv3 0);have hbl:=hid (fun k (e:v.ownBlock = some k) => (show w.heap.size ≤ k ∧ k < Wf.heap.size by have:=hblk k e;omega));replace hMv:=hid hMv;replace hbf:=hid hbf;have hEq:Hid (EqM l (withRk l L)):=hid ⟨withRk_nrm hLc,fun m h => hLb _ (withRk_mem h).2⟩;obtain ⟨av,cvv,ev⟩:=hMv.out.len;clear hv hOw hLl hLb hLc hkp k0 hv3 hblk hWf hzf;subst ev;go_wp2_with fail;go_ret2;exact ⟨⟨_,_,rfl,hMv.out,hEq.out,hbl.out⟩,hbf.out⟩
end Og
end
section
open Go.RowKit Go.Shelf
namespace Ck
open Mem Pk Bd
def magic:List UInt8:=[66,78,83,73]
theorem magic_size {s:ByteArray} (h:s.data.toList.take 4 = magic):4 ≤ s.size:=by
 have:=congrArg List.length h;rw [List.length_take,size_list] at this;unfold magic at this;simp at this;omega
theorem ver_short {s:ByteArray} (h:¬ s.data.toList.take 4 = magic):verE s = 7 ∧ verN s = 0:=by
 have e:verE s = 7:=by
  unfold verE;exact if_neg h
 exact ⟨e,by unfold verN;rw [e];rfl⟩
theorem ver_cut {s:ByteArray} (h:s.data.toList.take 4 = magic) (h5:s.size < 5):verE s = 2 ∧ verN s = 0:=by
 have e:verE s = 2:=by
  unfold verE;rw [if_pos (show s.data.toList.take 4 = [66,78,83,73] from h),if_pos h5]
 exact ⟨e,by unfold verN;rw [e];rfl⟩
theorem ver_good {s:ByteArray} (h:s.data.toList.take 4 = magic) (h5:¬ s.size < 5):verE s = 0 ∧ verN s = ((s.data.toList[4]?.getD 0).toNat:Int):=by
 have e:verE s = 0:=by
  unfold verE;rw [if_pos (show s.data.toList.take 4 = [66,78,83,73] from h),if_neg h5]
 exact ⟨e,by unfold verN;rw [if_pos e]⟩
theorem wrap_byte (b:UInt8):wrap64 (b.toNat:Int) = (b.toNat:Int):=by
 have:=b.toNat_lt;unfold wrap64;omega
theorem byte_at {s:ByteArray} {k:Nat} (h:k < s.size):s[k] = s.data.toList[k]?.getD 0:=by
 have h2:k < s.data.toList.length:=h;rw [List.getElem?_eq_getElem h2]
 rfl
def verV (s:ByteArray):Value:=.tuple #[.int .i64 (verN s),.int .i64 (verE s)]
theorem pre4 {s:ByteArray}:Lib.hasPrefix s.data.toList (⟨#[66,78,83,73]⟩:ByteArray).data.toList = decide (s.data.toList.take 4 = magic):=by
 unfold Lib.hasPrefix magic
 rcases hs:s.data.toList with _ | ⟨a,_ | ⟨b,_ | ⟨c,_ | ⟨d,l⟩⟩⟩⟩ <;> simp [List.isPrefixOf]
 rw [Bool.eq_iff_iff];simp only [Bool.and_eq_true,beq_iff_eq,decide_eq_true_eq]
 constructor
 ·rintro ⟨h1,h2,h3,h4⟩
  exact ⟨h1.symm,h2.symm,h3.symm,h4.symm⟩
 ·rintro ⟨h1,h2,h3,h4⟩
  exact ⟨h1.symm,h2.symm,h3.symm,h4.symm⟩
theorem cut4 {s:ByteArray} (h:s.data.toList.take 4 = magic):(⟨(Lib.trimPrefix s.data.toList (⟨#[66,78,83,73]⟩:ByteArray).data.toList).toArray⟩:ByteArray) = s.extract 4 s.size:=by
 have e:Lib.trimPrefix s.data.toList (⟨#[66,78,83,73]⟩:ByteArray).data.toList = s.data.toList.drop 4:=by
  unfold Lib.trimPrefix;rw [pre4,if_pos (decide_eq_true h)]
  rfl
 rw [e];refine ext_list ?_
 show _ = (rest s 4).data.toList
 rw [rest_list]
theorem ver_any (s:ByteArray) (w:World) :
  Calls Tryz.prog 107 #[.string s] w fun e w' => e = .returned (verV s) ∧ Below w.heap.size w w':=by
 have HC:=hid (Tryz.strings_CutPrefix s ⟨#[66,78,83,73]⟩ w);rw [pre4] at HC;unfold verV
 by_cases hm:s.data.toList.take 4 = magic
 ·have h4:=magic_size hm
  rw [cut4 hm,decide_eq_true hm] at HC;obtain ⟨u,hu⟩:∃ u,s.extract 4 s.size = u:=⟨_,rfl⟩
  have hul:u.data.toList = s.data.toList.drop 4:=by rw [← hu];exact rest_list s 4
  have hus:u.size = s.size - 4:=by rw [← size_list,hul,List.length_drop,size_list]
  rw [hu] at HC
  by_cases h5:s.size < 5
  ·obtain ⟨e1,e2⟩:=ver_cut hm h5
   rw [e1,e2];obtain rfl:u = ByteArray.empty:=ext_list (by rw [hul,List.drop_eq_nil_of_le (by rw [size_list];omega)];rfl);clear hm h5 e1 e2 hul hu;go_enter Tryz.func107,Tryz.ntmps107;go_wp2_with fail;refine HC.out.mono ?_
   rintro e w1 ⟨rfl,rfl⟩;go_wp2_with fail;go_ret2;exact ⟨rfl,Below.refl _ _⟩
  ·obtain ⟨e1,e2⟩:=ver_good hm h5
   rw [e1,e2]
   have h0:u.data.toList[0]?.getD 0 = s.data.toList[4]?.getD 0:=by rw [hul,List.getElem?_drop]
   have hne:(u.toList == []) = false:=by
    rw [beq_eq_false_iff_ne];intro e;rw [ByteArray.toList_eq] at e;have:=congrArg List.length e;rw [size_list] at this;have hz:u.size = 0:=this;omega
   have hu0:0 < u.size:=by omega
   rw [← h0];clear hm e1 e2 hul hu h0 hus;go_enter Tryz.func107,Tryz.ntmps107;go_wp2_with fail;refine HC.out.mono ?_
   rintro e w1 ⟨rfl,rfl⟩;go_wp2_with fail;go_ret2;exact ⟨by rw [wrap_byte,byte_at];rfl,Below.refl _ _⟩
 ·obtain ⟨e1,e2⟩:=ver_short hm
  rw [e1,e2];rw [decide_eq_false hm] at HC;clear hm e1 e2;go_enter Tryz.func107,Tryz.ntmps107;go_wp2_with fail;refine HC.out.mono ?_
  rintro e w1 ⟨rfl,rfl⟩;go_wp2_with fail;go_ret2;exact ⟨rfl,Below.refl _ _⟩
end Ck
end
section
open Go.RowKit Go.Shelf
namespace Ck
open Mem Pk Bd
def fK (u:ByteArray):Nat:=1 + numK (rest u 1) 0
def fN (u:ByteArray):Nat:=numN (rest u 1) 0
def fE1 (u:ByteArray):Int:=numE (rest u 1) 0
def fB (u:ByteArray):ByteArray:=(rest u (fK u)).extract 0 (fN u)
def fU (u:ByteArray):Nat:=fK u + fN u + 4
def firstE (u:ByteArray):Int:=if fE1 u ≠ 0 then fE1 u else if 1048576 < fN u then 10 else if u.size < fU u then 2 else if sealL (u.data.toList.take (fK u + fN u)) = u.data.toList.take (fU u) then 0 else 6
def firstC (u:ByteArray):Ch:=(((u.data.toList[0]?.getD 0).toNat:Int),fB u)
def noCh:Ch:=(0,ByteArray.empty)
def firstV (u:ByteArray):Value:=.tuple #[vCh (if firstE u = 0 then firstC u else noCh),.int .i64 (if firstE u = 0 then (fU u:Int) else 0),.int .i64 (firstE u)]
theorem take_one {u:ByteArray} (h:0 < u.size):takeE u 0 1 = 0 ∧ takeK u 0 1 = 1:=take_ok (n:=1) ⟨by decide,by omega⟩
theorem two_takes (u:ByteArray) (h1:fK u ≤ u.size):∀ r,r = rest u (fK u) → ∀ e2 k2 e3 k3,e2 = takeE r 0 (fN u:Int) → k2 = takeK r 0 (fN u:Int) → e3 = takeE (rest r k2) e2 4 → k3 = takeK (rest r k2) e2 4 →
  (u.size < fU u ∧ e3 = 2) ∨ (¬ u.size < fU u ∧ e3 = 0 ∧ k2 = fN u ∧ k3 = 4 ∧ e2 = 0):=by
 rintro r rfl e2 k2 e3 k3 rfl rfl rfl rfl;unfold fU
 by_cases hn:fK u + fN u ≤ u.size
 ·obtain ⟨a1,a2⟩:=take_ok (s:=rest u (fK u)) (n:=(fN u:Int)) ⟨by omega,by rw [rest_size];omega⟩
  rw [a1,a2,Int.toNat_natCast,rest_rest]
  by_cases h4:fK u + fN u + 4 ≤ u.size
  ·obtain ⟨b1,b2⟩:=take_ok (s:=rest u (fK u + fN u)) (n:=4) ⟨by omega,by rw [rest_size];omega⟩
   exact .inr ⟨by omega,b1,rfl,b2,rfl⟩
  ·obtain ⟨b1,b2⟩:=take_bad (s:=rest u (fK u + fN u)) (n:=4) (by rw [rest_size];omega)
   exact .inl ⟨by omega,b1⟩
 ·obtain ⟨a1,a2⟩:=take_bad (s:=rest u (fK u)) (n:=(fN u:Int)) (by rw [rest_size];omega)
  rw [a1,a2];exact .inl ⟨by omega,(take_err (by decide)).1⟩
theorem fK_le {u:ByteArray} (h:0 < u.size) (h1:fE1 u = 0):fK u ≤ u.size ∧ 2 ≤ fK u:=by
 unfold fE1 numE at h1;rw [if_pos rfl] at h1;obtain ⟨-,h3,h4,-⟩:=put_read (l:=(rest u 1).data.toList) (m:=(numR (rest u 1).data.toList).2.1) (K:=(numR (rest u 1).data.toList).2.2) (by rw [← h1]);rw [size_list,rest_size] at h4;unfold fK numK;rw [if_pos rfl];omega
theorem first_num {u:ByteArray} (h:fE1 u ≠ 0):firstE u = fE1 u:=if_pos h
theorem first_big {u:ByteArray} (h:fE1 u = 0) (h2:1048576 < fN u):firstE u = 10:=by unfold firstE;rw [if_neg (by simp [h]),if_pos h2]
theorem first_cut {u:ByteArray} (h:fE1 u = 0) (h2:¬ 1048576 < fN u) (h3:u.size < fU u):firstE u = 2:=by unfold firstE;rw [if_neg (by simp [h]),if_neg h2,if_pos h3]
theorem first_sum {u:ByteArray} (h:fE1 u = 0) (h2:¬ 1048576 < fN u) (h3:¬ u.size < fU u):firstE u = if sealL (u.data.toList.take (fK u + fN u)) = u.data.toList.take (fU u) then 0 else 6:=by unfold firstE;rw [if_neg (by simp [h]),if_neg h2,if_neg h3]
theorem firstV_bad {u:ByteArray} (h:firstE u ≠ 0):firstV u = .tuple #[.agg #[.int .i64 0,.string ByteArray.empty],.int .i64 0,.int .i64 (firstE u)]:=by
 unfold firstV;rw [if_neg h,if_neg h]
 rfl
theorem firstV_good {u:ByteArray} (h:firstE u = 0):firstV u = .tuple #[.agg #[.int .i64 ((u.data.toList[0]?.getD 0).toNat:Int),.string (fB u)],.int .i64 (fU u:Int),.int .i64 0]:=by
 unfold firstV;rw [if_pos h,if_pos h,h]
 rfl
def FS (w W:World):Prop:=W.heap[w.heap.size]? = some (.cells #[.int .i64 0,.string ⟨#[]⟩] 57) ∧ Below w.heap.size w W ∧ w.heap.size + 2 ≤ W.heap.size
theorem FS.kept {w W W':World} (h:FS w W) (k:Kept (· = w.heap.size + 1) W W'):FS w W':=⟨k.at h.1 (by omega),h.2.1.trans (k.to_below h.2.1.size (fun _ _ _ => by omega)),Nat.le_trans h.2.2 k.size⟩
theorem FS.below {w W W':World} (h:FS w W) (k:Below W.heap.size W W'):FS w W':=⟨(k.block _ (lt_of_block h.1)).trans h.1,h.2.1.trans (k.mono h.2.1.size),Nat.le_trans h.2.2 k.size⟩
theorem FS.drew {w W:World} (h:FS w W):FS w W.drew:=⟨h.1,h.2.1.drew,h.2.2⟩
theorem first_results (tmps:Array Value) (w:World) (B:Nat) (k:Int) (s:ByteArray) (h:tmps.getD 2 undef = .pointer (some ⟨B,0,none⟩)) (hw:w.heap[B]? = some (.cells #[.int .i64 k,.string s] 57)) :
  (results Tryz.f142 tmps).run Tryz.prog w = .ok (.tuple #[.agg #[.int .i64 k,.string s],tmps.getD 3 undef,tmps.getD 4 undef]) w:=by
 have hr:Tryz.f142.results = #[.cell 2 57,.tmp 3,.tmp 4]:=rfl;have c0:w.cell? ⟨B,0,none⟩ = some (.int .i64 k):=cell_at hw 0;have c1:w.cell? ⟨B,1,none⟩ = some (.string s):=cell_at hw 1;simp only [results,hr];simp only [Array.getD_eq_getD_getElem?] at h;simp [Sem.run_bind,Result.andThen,h,go_sem];simp [c0,c1]
theorem bytes_ne {x y:ByteArray} (h:¬ x = y):(x.toList == y.toList) = false:=by
 rw [beq_eq_false_iff_ne,ByteArray.toList_eq,ByteArray.toList_eq]
 exact fun e => h (ext_list e)
theorem first_any (u:ByteArray) (w:World) (hu:0 < u.size) (hs:u.size ≤ 100000) :
  Calls Tryz.prog 142 #[.string u] w fun e w' => e = .returned (firstV u) ∧ Below w.heap.size w w':=by
 have HU:=hid hu;obtain ⟨t1,t2⟩:=take_one hu;obtain ⟨T,hT⟩:∃ T,takeS u 0 1 = T:=⟨_,rfl⟩
 have hTs:T.size = 1:=by rw [← hT];unfold takeS;rw [t2,← size_list,head_list,List.length_take,size_list];omega
 have hT0:T.data.toList[0]?.getD 0 = u.data.toList[0]?.getD 0:=by rw [← hT];unfold takeS;rw [t2,head_list,List.getElem?_take_of_lt (by omega)]
 replace hT0:=hid hT0;have HN:=hid (numN_lt (rest u 1) 0);go_enter Tryz.func142,Tryz.ntmps142;go_wp2_with fail;refine (new_any u _).mono ?_
 rintro e w1 ⟨rfl,hw1⟩;obtain ⟨w0,hw0⟩:∃ w0,w.alloc (.cells #[.int .i64 0,.string ⟨#[]⟩] 57) = w0:=⟨_,rfl⟩;rw [hw0] at hw1;rw [hw0]
 have hz0:w0.heap.size = w.heap.size + 1:=by rw [← hw0];simp
 have k1:w1.heap[w.heap.size + 1]? = some (rd u 0):=by rw [hw1,← hz0];exact alloc_new w0 _
 have hF:FS w w1:=⟨by rw [hw1,← hw0];exact alloc_at _ (alloc_new w _),by rw [hw1,← hw0];exact ((Below.refl _ _).alloc (Nat.le_refl _) _).alloc (by simp) _,by rw [hw1];simp [hz0]⟩;rw [hz0];clear hw1 hw0 hz0;replace k1:=hid k1;replace hF:=hid hF;go_wp2_with fail;refine (take_any _ u 0 1 _ k1.out).mono ?_
 rintro e w2 ⟨rfl,k2,q2⟩;rw [t1,t2] at k2;rw [hT];replace hF:=hid (hF.out.kept q2);replace k2:=hid k2;clear q2 k1;go_wp2_with fail;refine (num_any _ (rest u 1) 0 _ k2.out (by rw [rest_size];omega)).mono ?_
 rintro e w3 ⟨rfl,k3,q3⟩;replace hF:=hid (hF.out.kept q3);replace k3:=hid k3;clear q3 k2;go_wp2_with fail;refine (err_any _ _ _ _ k3.out).mono ?_
 rintro e w4 ⟨rfl,rfl⟩;rw [rest_rest] at k3
 change Hid (w3.heap[w.heap.size + 1]? = some (rd (rest u (fK u)) (fE1 u))) at k3
 change Hid (fN u < W64) at HN
 obtain ⟨E,hE⟩:∃ E,numE (rest u 1) 0 = E:=⟨_,rfl⟩;obtain ⟨N,hN⟩:∃ N,numN (rest u 1) 0 = N:=⟨_,rfl⟩;have hE2:fE1 u = E:=hE;have hN2:fN u = N:=hN;rw [hE,hN];rw [hE2] at k3;rw [hN2] at HN;clear hE hN;have hr:=hF.out.1;have c0:w3.cell? ⟨w.heap.size,0,none⟩ = some (.int .i64 0):=cell_at hr 0;have c1:w3.cell? ⟨w.heap.size,1,none⟩ = some (.string ⟨#[]⟩):=cell_at hr 1;have f0:w3.frozen? ⟨w.heap.size,0,none⟩ = false:=free_at hr 0;have f1:w3.frozen? ⟨w.heap.size,1,none⟩ = false:=free_at hr 1
 by_cases h1:E = 0
 ·subst h1
  obtain ⟨hK,hK2⟩:=fK_le HU.out hE2;have hNb:=HN.out
  by_cases h2:1048576 < N
  ·have hv:=hid (firstV_bad (u:=u) (by rw [first_big hE2 (by rw [hN2];exact h2)];decide))
   rw [first_big hE2 (by rw [hN2];exact h2)] at hv;have hd:decide ((1048576:Int) < (N:Nat)) = true:=decide_eq_true (by omega);clear h2;go_wp2_with fail
   (try simp only [Exit.inBlock,Exit.then])
   refine bodyPost_ret (v:=.tuple #[.agg #[.int .i64 0,.string ⟨#[]⟩],.int .i64 0,.int .i64 10]) ?_ ?_ ?_
   ·exact first_results _ _ w.heap.size 0 ⟨#[]⟩ rfl (set_at (set_at hr 0 _) 1 _)
   ·rfl
   exact ⟨by rw [hv.out];rfl,(hF.out.2.1.setCell (Nat.le_refl _) _).setCell (Nat.le_refl _) _⟩
  ·have hd:decide ((1048576:Int) < (N:Nat)) = false:=decide_eq_false (by omega)
   have hwN:IntKind.i64.wrap (N:Int) = (N:Int):=IntWalk.i64_in _ (by omega);clear c0 c1 f0 f1 hr;have HH:=hid (two_takes u hK);rw [hN2] at HH
   have hfU:fU u = fK u + N + 4:=by unfold fU;rw [hN2]
   have HB:Hid (fB u = (rest u (fK u)).extract 0 N):=hid (by unfold fB;rw [hN2]);have HS1:=hid (fun h3 => first_sum hE2 (by rw [hN2];exact h2) h3);have HS2:=hid (fun h3 => first_cut hE2 (by rw [hN2];exact h2) h3);rw [hN2] at HS1;have hfK:Hid (fK u = fK u):=hid rfl;generalize hU0:fU u = Un at *;replace hU0:=hid hU0;generalize fK u = K at *;go_wp2_with fail;refine (take_any _ (rest u K) 0 (N:Int) _ k3.out).mono ?_
   rintro e w5 ⟨rfl,k5,q5⟩;replace hF:=hid (hF.out.kept q5);replace k5:=hid k5;have HH2:=hid (HH.out _ rfl _ _ _ _ rfl rfl rfl rfl);have HB2:Hid (takeS (rest u K) 0 (N:Int) = (rest u K).extract 0 (takeK (rest u K) 0 (N:Int))):=hid rfl;clear q5 k3 HH;generalize takeS (rest u K) 0 (N:Int) = body at *;generalize takeK (rest u K) 0 (N:Int) = k2 at *;generalize takeE (rest u K) 0 (N:Int) = e2 at *;go_wp2_with fail;refine (take_any _ _ e2 4 _ k5.out).mono ?_
   rintro e w6 ⟨rfl,k6,q6⟩;replace hF:=hid (hF.out.kept q6);replace k6:=hid k6;clear q6 k5;rw [rest_rest,rest_rest] at k6;generalize takeS (rest (rest u K) k2) e2 4 = sum at *;generalize takeK (rest (rest u K) k2) e2 4 = k3 at *;generalize takeE (rest (rest u K) k2) e2 4 = e3 at *;go_wp2_with fail;refine (err_any _ _ _ _ k6.out).mono ?_
   rintro e w7 ⟨rfl,rfl⟩
   rcases HH2.out with ⟨h3,rfl⟩ | ⟨h3,rfl,rfl,rfl,rfl⟩
   ·have hv:=hid (firstV_bad (u:=u) (by rw [HS2.out h3];decide))
    rw [HS2.out h3] at hv;have hr:=hF.out.1;have c0:w6.cell? ⟨w.heap.size,0,none⟩ = some (.int .i64 0):=cell_at hr 0;have c1:w6.cell? ⟨w.heap.size,1,none⟩ = some (.string ⟨#[]⟩):=cell_at hr 1;have f0:w6.frozen? ⟨w.heap.size,0,none⟩ = false:=free_at hr 0;have f1:w6.frozen? ⟨w.heap.size,1,none⟩ = false:=free_at hr 1;clear HH2;go_wp2_with fail
    (try simp only [Exit.inBlock,Exit.then])
    refine bodyPost_ret (v:=.tuple #[.agg #[.int .i64 0,.string ⟨#[]⟩],.int .i64 0,.int .i64 2]) ?_ ?_ ?_
    ·exact first_results _ _ w.heap.size 0 ⟨#[]⟩ rfl (set_at (set_at hr 0 _) 1 _)
    ·rfl
    exact ⟨by rw [hv.out];rfl,(hF.out.2.1.setCell (Nat.le_refl _) _).setCell (Nat.le_refl _) _⟩
   ·go_wp2_with fail
    refine (left_any _ _ _ _ k6.out).mono ?_
    rintro e w8 ⟨rfl,rfl⟩;rw [rest_size];obtain ⟨X,hX⟩:∃ X,K + k2 = X:=⟨_,rfl⟩
    have hUn:Un = X + 4:=by omega
    have hXs:X + 4 ≤ u.size:=by omega
    have hl1:((u.size - Un:Nat):Int) = (u.size:Int) - (Un:Nat):=by omega
    have hsub:(u.size:Int) - ((u.size:Int) - (Un:Int)) = (Un:Int):=by omega
    have hw1:IntKind.i64.wrap (Un:Int) = (Un:Int):=IntWalk.i64_in _ (by omega)
    have hw2:IntKind.i64.wrap ((Un:Int) - 4) = (X:Int):=by rw [show (Un:Int) - 4 = (X:Int) by omega];exact IntWalk.i64_in _ (by omega)
    rw [show K + (k2 + 4) = Un by omega,hl1];have hv0:=HS1.out h3;rw [hX] at hv0;have HSe:=hid (fun W => sealed_any (u.extract 0 X) W (by rw [← size_list,head_list,List.length_take,size_list];omega));rw [head_list] at HSe;have hP1:u.extract 0 Un = str (u.data.toList.take Un):=ext_list (by rw [head_list,str_data]);have HSF:Hid (∀ W,FS w W → Calls Tryz.prog 60 #[.string (u.extract 0 X)] W fun e W' => e = .returned (.string (str (sealL (u.data.toList.take X)))) ∧ FS w W'):=hid (fun W h => (HSe.out W).mono fun e W' h2 => ⟨h2.1,h.below h2.2⟩)
    have hi0:(0:Int) ≤ (X:Nat):=by omega
    have hi1:(X:Int) ≤ (u.size:Nat):=by omega
    have hi2:(0:Int) ≤ (Un:Int):=by omega
    have hi3:(Un:Int) ≤ (u.size:Nat):=by omega
    have hj1:X ≤ u.size:=by omega
    have hj2:Un ≤ u.size:=by omega
    have hFo:=hF.out;clear HSe hl1 HH2 HS1 HS2 hfU hX hXs hUn h2 h3 hd hwN;generalize sealL (u.data.toList.take X) = P at *
    by_cases hq:str P = u.extract 0 Un
    ·have he:firstE u = 0:=by rw [hv0];exact if_pos (by rw [hP1] at hq;exact str_inj hq)
     have hv:=hid (firstV_good he);rw [hq] at HSF;clear hv0 hP1 hq;go_wp2_with fail
     go_region_held3 (fun W => FS w W) (first | assumption | exact FS.drew hFo) (first | (go_at_call 60;(refine (HSF.out _ (by assumption)).mono ?_);rintro e' W' ⟨rfl,hS'⟩))
     all_goals
      have hr:=hS'.1;have c0:W'.cell? ⟨w.heap.size,0,none⟩ = some (.int .i64 0):=cell_at hr 0;have c1:W'.cell? ⟨w.heap.size,1,none⟩ = some (.string ⟨#[]⟩):=cell_at hr 1;have f0:W'.frozen? ⟨w.heap.size,0,none⟩ = false:=free_at hr 0;have f1:W'.frozen? ⟨w.heap.size,1,none⟩ = false:=free_at hr 1
      have hT1:0 < T.size:=by omega
      go_wp2_with fail
      (try simp only [Exit.inBlock,Exit.then])
      refine bodyPost_ret (v:=.tuple #[.agg #[.int .i64 (wrap64 (T[0].toNat:Int)),.string body],.int .i64 Un,.int .i64 0]) ?_ ?_ ?_
      ·exact first_results _ _ w.heap.size _ _ rfl (set_at (set_at hr 0 _) 1 _)
      ·rfl
      exact ⟨by rw [hv.out,wrap_byte,byte_at,hT0.out,HB.out,HB2.out,hU0.out],(hS'.2.1.setCell (Nat.le_refl _) _).setCell (Nat.le_refl _) _⟩
    ·have he:firstE u = 6:=by rw [hv0];exact if_neg (fun e => hq (by rw [hP1,e]))
     have hv:=hid (firstV_bad (u:=u) (by rw [he];decide));rw [he] at hv;have hq2:=bytes_ne hq;clear hv0 hP1 hq;go_wp2_with fail
     go_region_held3 (fun W => FS w W) (first | assumption | exact FS.drew hFo) (first | (go_at_call 60;(refine (HSF.out _ (by assumption)).mono ?_);rintro e' W' ⟨rfl,hS'⟩))
     all_goals
      have hr:=hS'.1;have c0:W'.cell? ⟨w.heap.size,0,none⟩ = some (.int .i64 0):=cell_at hr 0;have c1:W'.cell? ⟨w.heap.size,1,none⟩ = some (.string ⟨#[]⟩):=cell_at hr 1;have f0:W'.frozen? ⟨w.heap.size,0,none⟩ = false:=free_at hr 0;have f1:W'.frozen? ⟨w.heap.size,1,none⟩ = false:=free_at hr 1;go_wp2_with fail
      (try simp only [Exit.inBlock,Exit.then])
      refine bodyPost_ret (v:=.tuple #[.agg #[.int .i64 0,.string ⟨#[]⟩],.int .i64 0,.int .i64 6]) ?_ ?_ ?_
      ·exact first_results _ _ w.heap.size 0 ⟨#[]⟩ rfl (set_at (set_at hr 0 _) 1 _)
      ·rfl
      exact ⟨by rw [hv.out];rfl,(hS'.2.1.setCell (Nat.le_refl _) _).setCell (Nat.le_refl _) _⟩
 ·have hv:=hid (firstV_bad (u:=u) (by rw [first_num (by rw [hE2];exact h1),hE2];exact h1))
  rw [first_num (by rw [hE2];exact h1),hE2] at hv
  have hd:(E != 0) = true:=by rw [bne_iff_ne];exact h1
  clear h1;go_wp2_with fail
  (try simp only [Exit.inBlock,Exit.then])
  refine bodyPost_ret (v:=.tuple #[.agg #[.int .i64 0,.string ⟨#[]⟩],.int .i64 0,.int .i64 E]) ?_ ?_ ?_
  ·exact first_results _ _ w.heap.size 0 ⟨#[]⟩ rfl (set_at (set_at hr 0 _) 1 _)
  ·rfl
  exact ⟨by rw [hv.out];rfl,(hF.out.2.1.setCell (Nat.le_refl _) _).setCell (Nat.le_refl _) _⟩
end Ck
end
section
open Go.RowKit Go.Shelf
namespace Ck
open Mem Pk Bd
def splitGo:Nat → Int → ByteArray → Int × List Ch
 | 0,_,_ => (0,[])
 | f + 1,last,u => if u.size = 0 then (0,[]) else if firstE u ≠ 0 then (firstE u,[]) else if (firstC u).1 ≤ last then (12,[]) else ((splitGo f (firstC u).1 (rest u (fU u))).1,firstC u :: (splitGo f (firstC u).1 (rest u (fU u))).2)
def splitR (s:ByteArray):Int × List Ch:=splitGo s.size 0 (rest s 5)
def splitE (s:ByteArray):Int:=if verE s = 0 then (splitR s).1 else verE s
def splitL (s:ByteArray):List Ch:=if splitE s = 0 then (splitR s).2 else []
def splitV (s:ByteArray):Int:=if splitE s = 0 then verN s else 0
theorem fU_pos (u:ByteArray):5 ≤ fU u:=by unfold fU fK;omega
theorem firstE_ok {u:ByteArray} (h:firstE u = 0):fE1 u = 0 ∧ ¬ 1048576 < fN u ∧ ¬ u.size < fU u ∧ sealL (u.data.toList.take (fK u + fN u)) = u.data.toList.take (fU u):=by
 unfold firstE at h
 split at h
 ·rename_i h1;exact absurd h h1
 ·rename_i h1
  split at h
  ·exact absurd h (by decide)
  ·rename_i h2
   split at h
   ·exact absurd h (by decide)
   ·rename_i h3
    split at h
    ·rename_i h4
     exact ⟨by simpa using h1,h2,h3,h4⟩
    ·exact absurd h (by decide)
theorem firstC_ok {u:ByteArray} (h:firstE u = 0):Ok (firstC u) ∧ 0 ≤ (firstC u).1 ∧ (firstC u).1 ≤ 255 ∧ (firstC u).2.size ≤ 1048576:=by
 have h1:=(u.data.toList[0]?.getD 0).toNat_lt;have h2:=(firstE_ok h).2.1
 have h3:(fB u).size ≤ fN u:=by
  unfold fB;rw [← size_list,head_list,List.length_take];omega
 refine ⟨⟨⟨?_,?_⟩,?_⟩,?_,?_,?_⟩
 ·show (-9223372036854775808:Int) ≤ ((u.data.toList[0]?.getD 0).toNat:Int);omega
 ·show ((u.data.toList[0]?.getD 0).toNat:Int) ≤ 9223372036854775807;omega
 ·show (fB u).size ≤ maxLen
  unfold maxLen;omega
 ·show (0:Int) ≤ ((u.data.toList[0]?.getD 0).toNat:Int);omega
 ·show ((u.data.toList[0]?.getD 0).toNat:Int) ≤ 255;omega
 ·show (fB u).size ≤ 1048576;omega
structure SAt (s:ByteArray) (last:Int) (u:ByteArray) (acc:List Ch):Prop where
 e:∃ f,u.size ≤ f ∧ splitR s = ((splitGo f last u).1,acc ++ (splitGo f last u).2)
 bound:∀ c ∈ acc,Ok c
 len:acc.length + u.size ≤ s.size
 lo:0 ≤ last
 hi:last ≤ 255
theorem SAt.start (s:ByteArray):SAt s 0 (rest s 5) []:=⟨⟨s.size,by rw [rest_size];omega,rfl⟩,fun c hc => by simp at hc,by rw [rest_size];simp,by decide,by decide⟩
theorem SAt.done {s u:ByteArray} {last:Int} {acc:List Ch} (h:SAt s last u acc) (h0:u.size = 0):splitR s = (0,acc):=by
 obtain ⟨f,-,e⟩:=h.e;rw [e]
 cases f with
 | zero => rw [splitGo,List.append_nil]
 | succ f => rw [splitGo,if_pos h0,List.append_nil]
theorem SAt.err {s u:ByteArray} {last:Int} {acc:List Ch} (h:SAt s last u acc) (h0:0 < u.size) (h1:firstE u ≠ 0):(splitR s).1 = firstE u:=by
 obtain ⟨f,hf,e⟩:=h.e;rw [e]
 cases f with
 | zero => omega
 | succ f => rw [splitGo,if_neg (by omega),if_pos h1]
theorem SAt.low {s u:ByteArray} {last:Int} {acc:List Ch} (h:SAt s last u acc) (h0:0 < u.size) (h1:firstE u = 0) (h2:(firstC u).1 ≤ last):(splitR s).1 = 12:=by
 obtain ⟨f,hf,e⟩:=h.e;rw [e]
 cases f with
 | zero => omega
 | succ f => rw [splitGo,if_neg (by omega),if_neg (by simp [h1]),if_pos h2]
theorem SAt.next {s u:ByteArray} {last:Int} {acc:List Ch} (h:SAt s last u acc) (h0:0 < u.size) (h1:firstE u = 0) (h2:¬ (firstC u).1 ≤ last):SAt s (firstC u).1 (rest u (fU u)) (acc ++ [firstC u]):=by
 obtain ⟨f,hf,e⟩:=h.e;obtain ⟨c1,c2,c3,-⟩:=firstC_ok h1;have hp:=fU_pos u;have hl:=h.len
 cases f with
 | zero => omega
 | succ f =>
  refine ⟨⟨f,by rw [rest_size];omega,?_⟩,fun c hc => ?_,by rw [rest_size,List.length_append,List.length_singleton];omega,c2,c3⟩
  ·rw [e,splitGo,if_neg (by omega),if_neg (by simp [h1]),if_neg h2,List.append_assoc]
   rfl
  ·rw [List.mem_append,List.mem_singleton] at hc
   rcases hc with hc | rfl
   ·exact h.bound c hc
   ·exact c1
def SplitR (s:ByteArray) (w:World) (e:Ending) (w':World):Prop:=
 (∃ r L,e = .returned (.tuple #[.int .i64 (splitV s),r,.int .i64 (splitE s)]) ∧ Chs w' r L ∧ L = splitL s) ∧ Below w.heap.size w w'
theorem SplitR.bad {s:ByteArray} {c:Int} {w w':World} (h:splitE s = c) (hc:c ≠ 0) (hb:Below w.heap.size w w'):SplitR s w (.returned (.tuple #[.int .i64 0,.slice none 0 0,.int .i64 c])) w':=by
 subst h;refine ⟨⟨.slice none 0 0,[],?_,chs_nil _,?_⟩,hb⟩
 ·unfold splitV;rw [if_neg hc]
 ·unfold splitL;rw [if_neg hc]
theorem SplitR.good {s:ByteArray} {r:Value} {L:List Ch} {w w':World} (h:verE s = 0) (hs:splitR s = (0,L)) (hr:Chs w' r L) (hb:Below w.heap.size w w'):SplitR s w (.returned (.tuple #[.int .i64 (verN s),r,.int .i64 0])) w':=by
 have h1:splitE s = 0:=by unfold splitE;rw [if_pos h,hs]
 refine ⟨⟨r,L,?_,hr,?_⟩,hb⟩
 ·unfold splitV;rw [if_pos h1,h1]
 ·unfold splitL;rw [if_pos h1,hs]
theorem splitE_ver {s:ByteArray} (h:verE s ≠ 0):splitE s = verE s:=if_neg h
theorem splitE_of {s:ByteArray} {c:Int} (h:verE s = 0) (hc:(splitR s).1 = c):splitE s = c:=by unfold splitE;rw [if_pos h,hc]
theorem ver_size {s:ByteArray} (h:verE s = 0):5 ≤ s.size:=by
 unfold verE at h
 split at h
 ·split at h
  ·exact absurd h (by decide)
  ·omega
 ·exact absurd h (by decide)
theorem src_two {W:World} {f:Nat} {k:Int} {b:ByteArray} (h:W.heap[f]? = some (.cells #[.int .i64 k,.string b] 57 (0,0))):Mem.Src W (.slice (some ⟨f,0,none⟩) 1 1) 1 [.int .i64 k,.string b]:=
 .inr ⟨⟨f,0,none⟩,1,rfl,fun j u hu => World.news_of_block (cs:=#[.int .i64 k,.string b]) h j u hu⟩
theorem ownC_kept {T:Nat → Prop} {w w':World} {B:Nat} {v:Value} {l:List Ch} (k:Kept T w w') (h:OwnC w B v l) (hT:∀ k,B ≤ k → k < w.heap.size → ¬ T k):OwnC w' B v l:=by
 refine ⟨h.1,?_⟩
 rcases h.2 with h2 | ⟨g,cap,cur,ev,hg,hh,r⟩
 ·exact .inl h2
 ·exact .inr ⟨g,cap,cur,ev,hg,k.at hh (hT g hg (lt_of_block hh)),r⟩
theorem ownC_below {w w':World} {B:Nat} {v:Value} {l:List Ch} (k:Below w.heap.size w w') (h:OwnC w B v l):OwnC w' B v l:=ownC_kept (Kept.of_below (T:=fun _ => False) k) h (fun _ _ _ h => h)
end Ck
end
section
open Go.RowKit Go.Shelf
namespace Ck
open Mem Pk Bd
theorem split_any (s:ByteArray) (w:World) (hs:s.size ≤ 10000) :
  Calls Tryz.prog 109 #[.string s] w (SplitR s w):=by
 obtain ⟨i0,hi,hz0,hz1,hz2⟩:=info_parts infoC;have HV:=hid (ver_any s w);unfold verV at HV
 by_cases hv:verE s = 0
 ·have h5:=ver_size hv
  have hv0:=hid hv;rw [hv] at HV;clear hv;go_enter Tryz.func109,Tryz.ntmps109;go_wp2_with fail
  go_step3
  go_wp2_with fail;refine HV.out.mono ?_
  rintro e w1 ⟨rfl,hb1⟩;replace hb1:=hid hb1;have hr5:s.extract 5 s.size = rest s 5:=rfl;go_wp2_with fail
  go_step3
  go_wp2_with fail
  go_loopw [0,7,8] (fun t v i wr => ∃ (last:Int) (u:ByteArray) (acc:List Ch),t = .string u ∧ i = .int .i64 last ∧ Hid (SAt s last u acc) ∧ Hid (OwnC wr w.heap.size v acc) ∧ Hid (Below w.heap.size w wr)) (fun t _ _ _ => match t with | .string u => u.size | _ => 0)
  case atStart => exact ⟨0,rest s 5,[],rfl,rfl,hid (SAt.start s),hid (ownC_nil _ _),hb1⟩
  case round =>
   obtain ⟨last,u,acc,rfl,rfl,hS,hO,hb⟩:=hrel
   by_cases h0:u.size = 0
   ·obtain rfl:u = ByteArray.empty:=ext_list (List.eq_nil_of_length_eq_zero (by rw [size_list];exact h0))
    have hE:=hid (SplitR.good hv0.out (hS.out.done rfl) (hO.out.chs hS.out.bound) hb.out);clear hS hO h0;go_wp2_with fail
    go_ret3
    exact hE.out
   ·have hu:0 < u.size:=by omega
    have hne:(u.toList == []) = false:=by
     rw [beq_eq_false_iff_ne];intro e;rw [ByteArray.toList_eq] at e;have:=congrArg List.length e;rw [size_list] at this;exact h0 this
    have hlen:=hS.out.len
    have hus:u.size ≤ 100000:=by omega
    clear h0;go_wp2_with fail;refine (first_any u _ hu hus).mono ?_
    rintro e w2 ⟨rfl,hb2⟩;have hbW:=hid (hb.out.trans (hb2.mono hb.out.size));have hO2:=hid (ownC_below hb2 hO.out);clear hb2 hO hb
    by_cases h1:firstE u = 0
    ·obtain ⟨g1,g2,g3,g4⟩:=firstC_ok h1
     rw [firstV_good h1];have hc:firstC u = (((u.data.toList[0]?.getD 0).toNat:Int),fB u):=rfl
     have hfu:fU u ≤ u.size:=by have:=(firstE_ok h1).2.2.1;omega
     have hp:=fU_pos u
     by_cases h2:(firstC u).1 ≤ last
     ·have hE:=hid (fun w' hb => SplitR.bad (s:=s) (w:=w) (w':=w') (splitE_of hv0.out (hS.out.low hu h1 h2)) (by decide) hb)
      rw [hc] at h2;have hd:decide (last < ((u.data.toList[0]?.getD 0).toNat:Int)) = false:=decide_eq_false (by simp only at h2;omega);clear h2 hc hS g1 g2 g3 g4 hO2;generalize (u.data.toList[0]?.getD 0) = kb at *;generalize fB u = body at *;go_wp2_with fail
      go_ret3
      exact hE.out _ (hbW.out.alloc hbW.out.size _)
     ·have hN:=hid (hS.out.next hu h1 h2)
      rw [hc] at h2 hN;have hd:decide (last < ((u.data.toList[0]?.getD 0).toNat:Int)) = true:=decide_eq_true (by simp only at h2;omega);clear h2 hc hS g1 g2 g3 g4;generalize (u.data.toList[0]?.getD 0) = kb at *;generalize fB u = body at *;go_wp2_with fail;obtain ⟨wx,hwx⟩:∃ wx,w2.alloc (.cells #[.int .i64 ((kb.toNat:Nat):Int),.string body] 57) = wx:=⟨_,rfl⟩;rw [hwx]
      have hx1:wx.heap[w2.heap.size]? = some (.cells #[.int .i64 ((kb.toNat:Nat):Int),.string body] 57):=by rw [← hwx];exact alloc_new w2 _
      have hsx:wx.heap.size = w2.heap.size + 1:=by rw [← hwx];simp
      have hOx:wx.ownsRow w.heap.size 57 2 u7 acc.length (cellsC acc):=by rw [← hwx];exact World.ownsRow.alloc hO2.out _
      have hbx:Below w.heap.size w wx:=by rw [← hwx];exact hbW.out.alloc hbW.out.size _
      clear hwx;have c0:wx.cell? ⟨w2.heap.size,0,none⟩ = some (.int .i64 ((kb.toNat:Nat):Int)):=cell_at hx1 0;have c1:wx.cell? ⟨w2.heap.size,1,none⟩ = some (.string body):=cell_at hx1 1;have hS0:wx.drew.cell? ⟨w2.heap.size,0,none⟩ = some (.int .i64 ((kb.toNat:Nat):Int)) ∧ wx.drew.cell? ⟨w2.heap.size,1,none⟩ = some (.string body) ∧ Below w.heap.size w wx.drew:=⟨c0,c1,hbx.drew⟩
      have HSS:Hid (∀ W,W.heap[w2.heap.size]? = some (.cells #[.int .i64 ((kb.toNat:Nat):Int),.string body] 57) → Below w.heap.size w W → W.cell? ⟨w2.heap.size,0,none⟩ = some (.int .i64 ((kb.toNat:Nat):Int)) ∧ W.cell? ⟨w2.heap.size,1,none⟩ = some (.string body) ∧ Below w.heap.size w W):=hid (fun W h h2 => ⟨cell_at h 0,cell_at h 1,h2⟩);have hno:=hOx.lt;have hno2:=World.ownsRow.lt hO2.out
      have i1:(0:Int) ≤ (fU u:Nat):=by omega
      have i2:(fU u:Int) ≤ (u.size:Nat):=by omega
      have hre:u.extract (fU u) u.size = rest u (fU u):=rfl;have hbz:=hbx.size;clear hO2 hbW
      go_region_held3 (fun W => W.cell? ⟨w2.heap.size,0,none⟩ = some (.int .i64 ((kb.toNat:Nat):Int)) ∧ W.cell? ⟨w2.heap.size,1,none⟩ = some (.string body) ∧ Below w.heap.size w W) (first | assumption | exact HSS.out _ (alloc_at _ hx1) (hbx.alloc hbz _).drew) ((refine step_append_src (by rfl) (.tmp 39) (.tmp 41) 53 (by rfl) w.heap.size 57 i0 (.agg #[.int .i64 0,.string ByteArray.empty]) 2 24 Tryz.underlying53 hi hz0 hz1 hz2 rfl (by decide) _ acc.length (cellsC acc) (by rfl) ?_ _ 1 [.int .i64 ((kb.toNat:Nat):Int),.string body] (by rfl) rfl ?_ (one_ch _ _) (by unfold maxLen;omega) (by omega) ?_ ?_;exact World.ownsRow.alloc hOx _;exact src_two (by rw [← hsx];exact alloc_new wx _);exact (hbx.alloc hbz _).size;intro v1 w1' hown1 hgrow1;have hS1:=HSS.out w1' ((hgrow1.block _ (by simp;omega) (fun e => by have:=(hno2 _ e.symm).2;omega)).trans (alloc_at _ hx1)) ((hbx.alloc hbz _).drew.grown hgrow1 (by simp;omega) (fun k e => (hno k e).1))))
      all_goals
       have hOf:=hid (ownC_snoc (c:=(((kb.toNat:Nat):Int),body)) hown1);have hbf:=hid hS1.2.2;clear hown1 hgrow1 hS1 hS0 hno hno2;go_wp2_with fail
       go_roundw
       case rel => exact ⟨_,_,_,rfl,rfl,hN,hOf,hbf⟩
       case measure => simp [rest_size];omega
    ·have hE:=hid (fun w' hb => SplitR.bad (s:=s) (w:=w) (w':=w') (splitE_of hv0.out (hS.out.err hu h1)) h1 hb)
     rw [firstV_bad h1]
     have hd:(firstE u != 0) = true:=by rw [bne_iff_ne];exact h1
     clear h1 hS hO2;generalize firstE u = E at *;go_wp2_with fail
     go_ret3
     exact hE.out _ (hbW.out.alloc hbW.out.size _)
 ·have hE:=hid (fun w' hb => SplitR.bad (s:=s) (w:=w) (w':=w') (splitE_ver hv) hv hb)
  have hd:(verE s != 0) = true:=by rw [bne_iff_ne];exact hv
  clear hv;go_enter Tryz.func109,Tryz.ntmps109;go_wp2_with fail
  go_step3
  go_wp2_with fail;refine HV.out.mono ?_
  rintro e w1 ⟨rfl,hb1⟩;go_wp2_with fail
  go_ret3
  exact hE.out _ hb1
end Ck
end
section
open Go.RowKit Go.Shelf
namespace Ck
open Mem Pk Bd
theorem first_one {c:Ch} {u:ByteArray} {R:List UInt8} (hu:u.data.toList = oneL c ++ R) (hk:0 ≤ c.1 ∧ c.1 ≤ 255) (hb:c.2.size ≤ 1048576) :
  firstE u = 0 ∧ firstC u = c ∧ fU u = (oneL c).length ∧ (rest u (fU u)).data.toList = R ∧ 0 < u.size:=by
 obtain ⟨k,b⟩:=c;simp only at hk hb;obtain ⟨P,hP⟩:∃ P,[b8 k] ++ putL b.size ++ b.data.toList = P:=⟨_,rfl⟩;obtain ⟨Z,hZ⟩:∃ Z,(fixL (Crc.more 0 P)).take 4 = Z:=⟨_,rfl⟩
 have hZl:Z.length = 4:=by rw [← hZ,List.length_take,fix_len];rfl
 have ho:oneL (k,b) = P ++ Z:=by show sealL ([b8 k] ++ putL b.size ++ b.data.toList) = _;rw [hP];unfold sealL;rw [hZ]
 have hPl:P.length = 1 + (putL b.size).length + b.size:=by rw [← hP];simp;omega
 have hu2:u.data.toList = [b8 k] ++ (putL b.size ++ (b.data.toList ++ (Z ++ R))):=by rw [hu,ho,← hP];simp
 have hr:numR (rest u 1).data.toList = (0,b.size,(putL b.size).length):=by
  rw [rest_list,hu2];exact read_put (Nat.lt_of_le_of_lt hb (by decide)) _
 have hE:fE1 u = 0:=by unfold fE1 numE;rw [if_pos rfl,hr]
 have hN:fN u = b.size:=by unfold fN numN;rw [if_pos rfl,hr]
 have hK:fK u = 1 + (putL b.size).length:=by unfold fK numK;rw [if_pos rfl,hr]
 have hU:fU u = P.length + 4:=by unfold fU;rw [hN,hK,hPl]
 have hus:u.size = P.length + 4 + R.length:=by rw [← size_list,hu,ho,List.length_append,List.length_append,hZl]
 have t1:u.data.toList.take (fK u + fN u) = P:=by
  rw [hK,hN,← hPl,hu,ho,List.append_assoc,List.take_left]
 have t2:u.data.toList.take (fU u) = P ++ Z:=by
  rw [hU,hu,ho,show P.length + 4 = (P ++ Z).length by rw [List.length_append,hZl],List.take_left]
 have hF:firstE u = 0:=by
  rw [first_sum hE (by rw [hN];omega) (by rw [hU,hus];omega),t1,t2];exact if_pos (by unfold sealL;rw [hZ])
 refine ⟨hF,?_,by rw [hU,ho,List.length_append,hZl],?_,by omega⟩
 ·unfold firstC
  have h0:u.data.toList[0]?.getD 0 = b8 k:=by rw [hu2];rfl
  have h1:((b8 k).toNat:Int) = k:=by rw [← b8_val];omega
  have h2:fB u = b:=by
   unfold fB;refine ext_list ?_
   rw [head_list,rest_list,hN,hK,hu2]
   have e:[b8 k] ++ (putL b.size ++ (b.data.toList ++ (Z ++ R))) = ([b8 k] ++ putL b.size) ++ (b.data.toList ++ (Z ++ R)):=by simp
   rw [e,show 1 + (putL b.size).length = ([b8 k] ++ putL b.size).length by simp;omega,List.drop_left,← size_list,List.take_left]
  rw [h0,h1,h2]
 ·rw [rest_list,hU,hu,ho,show P.length + 4 = (P ++ Z).length by rw [List.length_append,hZl],List.drop_left]
theorem joinGo_zero {last:Int} {c:Ch} {l:List Ch} (h:joinGo last (c :: l) = 0):¬ c.1 ≤ last ∧ c.1 ≤ 255 ∧ c.2.size ≤ 1048576 ∧ joinGo c.1 l = 0:=by
 rw [joinGo] at h
 split at h
 ·exact absurd h (by decide)
 ·rename_i h1
  split at h
  ·exact absurd h (by decide)
  ·rename_i h2
   exact ⟨fun e => h1 (.inl e),by omega,by omega,h⟩
theorem oneL_pos (c:Ch):0 < (oneL c).length:=by unfold oneL sealL;simp
theorem go_back (l:List Ch):∀ (f:Nat) (last:Int) (u:ByteArray),0 ≤ last → joinGo last l = 0 → u.data.toList = l.flatMap oneL → u.size ≤ f → splitGo f last u = (0,l):=by
 induction l with
 | nil =>
  intro f last u _ _ hu _
  have h0:u.size = 0:=by rw [← size_list,hu];rfl
  cases f with
  | zero => rw [splitGo]
  | succ f => rw [splitGo,if_pos h0]
 | cons c l ih =>
  intro f last u h0 hj hu hf;obtain ⟨h1,h2,h3,h4⟩:=joinGo_zero hj;rw [List.flatMap_cons] at hu;obtain ⟨e1,e2,e3,e4,e5⟩:=first_one hu ⟨by omega,h2⟩ h3;have hp:=oneL_pos c
  cases f with
  | zero => omega
  | succ f =>
   rw [splitGo,if_neg (by omega),if_neg (by simp [e1]),e2,if_neg h1,ih f c.1 (rest u (fU u)) (by omega) h4 e4 (by rw [rest_size,e3];omega)]
theorem join_zero {v:Int} {l:List Ch} (h:joinE v l = 0):0 ≤ v ∧ v ≤ 255 ∧ joinGo 0 l = 0:=by
 unfold joinE at h
 split at h
 ·exact absurd h (by decide)
 ·exact ⟨by omega,by omega,h⟩
theorem split_join {v:Int} {l:List Ch} (h:joinE v l = 0):splitE (joinS v l) = 0 ∧ splitL (joinS v l) = l ∧ splitV (joinS v l) = v:=by
 obtain ⟨h0,h1,h2⟩:=join_zero h;have hs:joinS v l = str (joinL v l):=if_pos h;rw [hs]
 have hd:(str (joinL v l)).data.toList = [66,78,83,73] ++ ([b8 v] ++ l.flatMap oneL):=by rw [str_data];unfold joinL;simp
 have hz:¬ (str (joinL v l)).size < 5:=by rw [← size_list,hd];simp
 have hm:(str (joinL v l)).data.toList.take 4 = magic:=by rw [hd];rfl
 obtain ⟨g1,g2⟩:=ver_good hm hz
 have hg2:verN (str (joinL v l)) = v:=by
  rw [g2,hd]
  show ((b8 v).toNat:Int) = v
  rw [← b8_val];omega
 have hr:splitR (str (joinL v l)) = (0,l):=by
  unfold splitR;exact go_back l _ 0 _ (by decide) h2 (by rw [rest_list,hd];rfl) (by rw [rest_size];omega)
 have hE:splitE (str (joinL v l)) = 0:=splitE_of g1 (by rw [hr]);exact ⟨hE,by unfold splitL;rw [if_pos hE,hr],by unfold splitV;rw [if_pos hE,hg2]⟩
end Ck
end
section
open Go.RowKit Go.Shelf
attribute [local go_sem] Fl.run_store_float
namespace St
open Mem Tp Tr Mo Fo Sn Og
theorem chs_head {W:World} {a:Option Addr} {n c k:Nat} {l m:List Ck.Ch} (h:Ck.Chs W (.slice a n c) (l ++ m)) (hk:l.length = k):Ck.Chs W (.slice a k c) l:=by
 obtain ⟨⟨a',cap,e,h1,h2,h3⟩,hb⟩:=h
 cases e
 refine ⟨⟨a,c,by rw [hk],by rw [List.length_append] at h1;omega,h2,fun h0 => ?_⟩,fun x hx => hb x (List.mem_append_left _ hx)⟩
 obtain ⟨b,off,e1,e2,e3⟩:=h3 (by rw [List.length_append];omega);refine ⟨b,off,e1,e2,fun j hj => ?_⟩
 have:=e3 j (by rw [List.length_append];omega)
 have hc:Ck.chAt (l ++ m) j = Ck.chAt l j:=by unfold Ck.chAt;rw [List.getElem?_append_left hj]
 rw [hc] at this;exact this
theorem chs_tail {W:World} {b o n c k:Nat} {l m:List Ck.Ch} (h:Ck.Chs W (.slice (some ⟨b,o,none⟩) n c) (l ++ m)) (hk:l.length = k) (h0:0 < m.length):Ck.Chs W (.slice (some ⟨b,o + k * 2,none⟩) m.length (c - k)) m:=by
 obtain ⟨⟨a',cap,e,h1,h2,h3⟩,hb⟩:=h
 cases e
 rw [List.length_append] at h1 h3;refine ⟨⟨_,c - k,rfl,by omega,(fun e => by cases e),fun _ => ?_⟩,fun x hx => hb x (List.mem_append_right _ hx)⟩
 obtain ⟨b',off,e1,e2,e3⟩:=h3 (by omega)
 cases e1
 refine ⟨b,o + k * 2,rfl,e2,fun j hj => ?_⟩
 have:=e3 (k + j) (by omega)
 have hc:Ck.chAt (l ++ m) (k + j) = Ck.chAt m j:=by unfold Ck.chAt;rw [List.getElem?_append_right (by omega),show k + j - l.length = j by omega]
 rw [hc,show o + (k + j) * 2 = o + k * 2 + j * 2 by omega] at this;exact this
theorem run_slice_tail {T E:TypeId} {i:TypeInfo} (hT:Tryz.prog.underlying T = some (.slice E)) (hi:Tryz.prog.info? E = some i) (hs:i.size = 2) (b o n k c:Nat) (hk:k ≤ n) (hkc:k < c) (hk0:0 < k) (w:World) :
  (Instr.slice T (.slice (some ⟨b,o,none⟩) n c) (some (.int .i64 (k:Int))) none none).run Tryz.prog w = .ok (.slice (some ⟨b,o + k * 2,none⟩) (n - k) (c - k)) w:=by
 have h1:¬ c = k:=by omega
 have h2:¬ k * 2 = 0:=by omega
 simp [Instr.slice,Instr.sliceBounds,Instr.sliceBound,asIntOf,run_underlying hT,Sem.run_bind,Sem.run_pure,Result.andThen_ok,sizeOf,typeInfo,hi,hk,hs,go_sem,h1,Addr.add];omega
def CV (b:Nat) (v:Value) (W:World):Prop:=W.heap[b]? = some (.cells #[v] 53 (0,0))
theorem step1_ok (p q:Value) (s:ByteArray) (w:World) (hv:Ck.verE s = 0) (hn:Ck.verN s = 2) :
  Calls Tryz.prog 106 #[p,.string s,q] w fun e w' => e = .returned (.int .i64 0) ∧ Below w.heap.size w w':=by
 have HV:=hid (Ck.ver_any s w);unfold Ck.verV at HV;rw [hv,hn] at HV;clear hv hn;go_enter Tryz.func106,Tryz.ntmps106;go_wp2_with fail;refine HV.out.mono ?_
 rintro e w1 ⟨rfl,b1⟩;replace b1:=hid b1;go_wp2_with fail;go_ret;exact ⟨rfl,b1.out⟩
theorem chs_same {W W':World} {v:Value} {l:List Ck.Ch} (h:Ck.Chs W v l) (hs:W.heap.size ≤ W'.heap.size) (hsame:∀ k,v.ownBlock = some k → W'.heap[k]? = W.heap[k]?):Ck.Chs W' v l:=by
 obtain ⟨⟨a,cap,rfl,h1,h2,h3⟩,hb⟩:=h;refine ⟨⟨a,cap,rfl,h1,h2,fun h0 => ?_⟩,hb⟩
 obtain ⟨b,off,rfl,e2,e3⟩:=h3 h0;have:=hsame b rfl;refine ⟨b,off,rfl,Nat.lt_of_lt_of_le e2 hs,fun j hj => ?_⟩
 simp only [World.cell?,this];exact e3 j hj
theorem chs_ne {W:World} {cb co n c bl:Nat} {l:List Ck.Ch} {a:Option Addr} {m k:Nat} (hC:Ck.Chs W (.slice (some ⟨cb,co,none⟩) n c) l) (h0:0 < l.length) (hl:CV bl (.slice a m k) W):cb ≠ bl:=by
 rintro rfl;have:=(Ck.chs_at hC (j:=0) h0).2.1;rw [cell_at hl] at this
 cases hj:co + 0 * 2 with
 | zero => rw [hj] at this;simp at this
 | succ j => rw [hj] at this;simp at this
theorem step2_ok (p:Value) (bl:Nat) (s:ByteArray) (w:World) (hl:CV bl (.slice none 0 0) w) (hs:s.size ≤ 10000) (he:Ck.splitE s = 0) (h8:(Ck.splitL s).length = 8) :
  Calls Tryz.prog 108 #[p,.string s,.pointer (some ⟨bl,0,none⟩)] w fun e w' => e = .returned (.int .i64 0) ∧ (∃ cb co cap,CV bl (.slice (some ⟨cb,co,none⟩) 8 cap) w' ∧ 8 ≤ cap ∧ Ck.Chs w' (.slice (some ⟨cb,co,none⟩) 8 cap) (Ck.splitL s)) ∧ Kept (· = bl) w w':=by
 have HS:=hid (Ck.split_any s w hs);have hlt:=lt_of_block hl;have HC:=hid hl;have HE:=hid he;have H8:=hid h8;clear hl he h8;go_enter Tryz.func108,Tryz.ntmps108;go_wp2_with fail;refine HS.out.mono ?_
 rintro e w1 ⟨⟨r,L,rfl,hC,hL⟩,b1⟩;rw [HE.out];have hC1:w1.heap[bl]? = some (.cells #[.slice none 0 0] 53 (0,0)):=below_at b1 HC.out hlt;have c0:=(show w1.cell? ⟨bl,0,none⟩ = some (.slice none 0 0) from cell_at hC1 0);have f0:w1.frozen? ⟨bl,0,none⟩ = false:=free_at hC1 0
 have hL8:L.length = 8:=by rw [hL];exact H8.out
 obtain ⟨a5,k5,e5⟩:=(chs_sl hC).len;rw [hL8] at e5;subst e5;obtain ⟨cb,co,rfl⟩:=Ck.some_chs hC (by rw [hL8];decide)
 have hcap:8 ≤ k5:=by have:=(chs_sl hC).cap.1;omega
 have hne:=chs_ne hC (by rw [hL8];decide) hC1;obtain ⟨W2,hW2⟩:∃ W2,w1.setCell ⟨bl,0,none⟩ (.slice (some ⟨cb,co,none⟩) 8 k5) = W2:=⟨_,rfl⟩
 have hV2:CV bl (.slice (some ⟨cb,co,none⟩) 8 k5) W2:=by rw [← hW2];exact (set_at hC1 0 _).trans rfl
 have k2:Kept (· = bl) w W2:=by rw [← hW2];exact Kept.setCell (T:=fun k => k = bl) ((Kept.refl _ w).below b1) (p:=⟨bl,0,none⟩) (fun _ => rfl) _
 have hC2:Ck.Chs W2 (.slice (some ⟨cb,co,none⟩) 8 k5) L:=by
  rw [← hW2];exact chs_same hC (by simp [World.setCell]) (fun k e => setCell_heap_other (by show k ≠ bl;cases e;exact hne))
 have c2:=(show W2.cell? ⟨bl,0,none⟩ = some (.slice (some ⟨cb,co,none⟩) 8 k5) from cell_at hV2 0);have hres:=hid (⟨cb,co,k5,hV2,hcap,by rw [← hL];exact hC2⟩:∃ cb co cap,CV bl (.slice (some ⟨cb,co,none⟩) 8 cap) W2 ∧ 8 ≤ cap ∧ Ck.Chs W2 (.slice (some ⟨cb,co,none⟩) 8 cap) (Ck.splitL s));replace hW2:=hid hW2;replace k2:=hid k2;clear hC hL hC1 hL8 hV2 hC2 b1 HS HC HE H8 hne;go_wp2_with fail;go_ret;rw [hW2.out];exact ⟨rfl,hres.out,k2.out⟩
def RV (b:Nat) (vb:Value) (fl:Tm) (vl vm:Value) (W:World):Prop:=W.heap[b]? = some (repO vb fl vl vm)
theorem step3_ok (br bl cb co cap:Nat) (s:Value) (r:Rp) (w:World) (hb:RV br (.slice none 0 0) ⟨0,0⟩ (.slice none 0 0) (.slice none 0 0) w) (hl:CV bl (.slice (some ⟨cb,co,none⟩) 8 cap) w) (h8:8 ≤ cap) (hC:Ck.Chs w (.slice (some ⟨cb,co,none⟩) 8 cap) (allC r)) (hW:WfR r) (hk:RkR r) :
  Calls Tryz.prog 110 #[.pointer (some ⟨br,0,none⟩),s,.pointer (some ⟨bl,0,none⟩)] w fun e w' => e = .returned (.int .i64 0) ∧ (∃ vb vm base',RV br vb r.fl (.slice none 0 0) vm w' ∧ Mem.Rows w' vb base' ∧ EqR r.base base' ∧ Mem.Mks w' vm r.mks ∧
   (∀ k,vb.ownBlock = some k → w.heap.size ≤ k ∧ k < w'.heap.size) ∧ (∀ k,vm.ownBlock = some k → w.heap.size ≤ k ∧ k < w'.heap.size)) ∧ Kept (· = br) w w':=by
 have HD:=hid (Sn.decode_ok (.slice (some ⟨cb,co,none⟩) 3 cap) r w (chs_head hC rfl) hW hk);have hlt:=lt_of_block hb;have c0:=(show w.cell? ⟨bl,0,none⟩ = some (.slice (some ⟨cb,co,none⟩) 8 cap) from cell_at hl 0)
 have hsl:∀ W:World,(Instr.slice 53 (.slice (some ⟨cb,co,none⟩) 8 cap) none (some (.int .i64 3)) none).run Tryz.prog W = .ok (.slice (some ⟨cb,co,none⟩) 3 cap) W:=fun W => run_slice_head Tryz.underlying53 (by kernel_rfl) (some ⟨cb,co,none⟩) 8 3 cap (by omega) W
 have HB:=hid hb;clear hb hl hC hW hk;go_enter Tryz.func110,Tryz.ntmps110;go_wp2_with fail;refine HD.out.mono ?_
 rintro e w1 ⟨⟨vb,vm,base',rfl,hR,hEq,hM,hxb,hxm⟩,b1⟩;have k2:w1.heap[br]? = some (.cells #[.slice none 0 0,.int .i64 0,.int .i64 0,.slice none 0 0,.slice none 0 0] 34 (0,0)):=below_at b1 HB.out hlt;obtain ⟨ab,kb,eb⟩:=hR.len;subst eb;obtain ⟨am,km,em⟩:=hM.len;subst em
 have ones:Hid (∀ v ∈ [Value.slice ab base'.length kb,.int .i64 r.fl.c,.int .i64 r.fl.r,.slice none 0 0,.slice am r.mks.length km],v.oneCell' = true):=hid (by
  intro v hv;simp only [List.mem_cons,List.not_mem_nil,or_false] at hv
  rcases hv with rfl | rfl | rfl | rfl | rfl <;> rfl)
 replace hR:=hid hR;replace hM:=hid hM;replace hEq:=hid hEq;replace b1:=hid b1;replace hxb:=hid hxb;replace hxm:=hid hxm;clear HD c0 hsl;unfold repV
 go_wp2_with (refine wpList_store_splice (by rfl) 34 _ _ (by rfl) br 0 [.slice ab base'.length kb,.int .i64 r.fl.c,.int .i64 r.fl.r,.slice none 0 0,.slice am r.mks.length km] (by rfl) (by rfl) 34 [.slice none 0 0,.int .i64 0,.int .i64 0,.slice none 0 0,.slice none 0 0] k2 (info_rep.trans rfl) (by simp) ones.out ?_;intro w4 hg4 hB4 hO4)
 have hs9:w1.heap.size ≤ w4.heap.size:=(hB4.out 0 _ (Below.refl 0 _) (Nat.zero_le _)).size;have hb0:=hB4.out 0 w1 (Below.refl 0 _) (Nat.zero_le _);go_ret;have x1:=hxb.out;have x2:=hxm.out;have hs1:=b1.out.size
 refine ⟨rfl,⟨_,_,base',hg4.out.trans rfl,sl_same hR.out hs9 (fun k e _ => hO4.out k (by have:=x1 k e;omega)),hEq.out,sl_same hM.out hs9 (fun k e _ => hO4.out k (by have:=x2 k e;omega)),(fun k e => by have:=x1 k e;omega),(fun k e => by have:=x2 k e;omega)⟩,
  ((Kept.refl (· = br) w).below b1.out).trans ⟨hb0.os,hb0.tape,hb0.output,hs9,fun k _ hk => hO4.out k hk⟩⟩
theorem step4_ok (br bl cb co cap:Nat) (s:Value) (r:Rp) (vb vm:Value) (w:World) (hb:RV br vb r.fl (.slice none 0 0) vm w) (hl:CV bl (.slice (some ⟨cb,co,none⟩) 8 cap) w) (h8:8 ≤ cap) (hC:Ck.Chs w (.slice (some ⟨cb,co,none⟩) 8 cap) (allC r)) (hW:WfR r) (hk:RkR r) :
  Calls Tryz.prog 112 #[.pointer (some ⟨br,0,none⟩),s,.pointer (some ⟨bl,0,none⟩)] w fun e w' => e = .returned (.int .i64 0) ∧ (∃ vl l',RV br vb r.fl vl vm w' ∧ Mem.Mvs w' vl l' ∧ EqM r.log l' ∧ (∀ k,vl.ownBlock = some k → w.heap.size ≤ k ∧ k < w'.heap.size)) ∧ Kept (· = br) w w':=by
 obtain ⟨i0,hi,hz0,hz1,hz2⟩:=info_parts Ck.infoC;have h1:=hW.len;have HD:=hid (Og.decode_ok r.log (.slice (some ⟨cb,co + 3 * 2,none⟩) 5 (cap - 3)) w (chs_tail (m:=Og.opC r.log) hC rfl (by show 0 < 5;decide)) (by omega) hW.lone hk.2 hW.lrise);have hlt:=lt_of_block hb;have c0:=(show w.cell? ⟨bl,0,none⟩ = some (.slice (some ⟨cb,co,none⟩) 8 cap) from cell_at hl 0)
 have hsl:∀ W:World,(Instr.slice 53 (.slice (some ⟨cb,co,none⟩) 8 cap) (some (.int .i64 3)) none none).run Tryz.prog W = .ok (.slice (some ⟨cb,co + 3 * 2,none⟩) 5 (cap - 3)) W:=fun W => run_slice_tail Tryz.underlying53 hi hz1 cb co 8 3 cap (by omega) (by omega) (by omega) W
 have HB:=hid hb;clear hb hl hC hW hk hi hz0 hz1 hz2;go_enter Tryz.func112,Tryz.ntmps112;go_wp2_with fail;refine HD.out.mono ?_
 rintro e w1 ⟨⟨vl,l',rfl,hM,hEq,hxl⟩,b1⟩;have k2:w1.heap[br]? = some (.cells #[vb,.int .i64 r.fl.c,.int .i64 r.fl.r,.slice none 0 0,vm] 34 (0,0)):=below_at b1 HB.out hlt;obtain ⟨am,km,em⟩:=hM.len;subst em;have c3:=(show w1.cell? ⟨br,3,none⟩ = some (.slice none 0 0) from cell_at k2 3);have f3:w1.frozen? ⟨br,3,none⟩ = false:=free_at k2 3;obtain ⟨W2,hW2⟩:∃ W2,w1.setCell ⟨br,3,none⟩ (.slice am l'.length km) = W2:=⟨_,rfl⟩
 have hV2:RV br vb r.fl (.slice am l'.length km) vm W2:=by rw [← hW2];exact (set_at k2 3 _).trans rfl
 have kk:Kept (· = br) w W2:=by rw [← hW2];exact Kept.setCell (T:=fun k => k = br) ((Kept.refl _ w).below b1) (p:=⟨br,3,none⟩) (fun _ => rfl) _
 have hz:W2.heap.size = w1.heap.size:=by rw [← hW2];simp [World.setCell]
 have hM2:Mem.Mvs W2 (.slice am l'.length km) l':=by
  rw [← hW2];exact sl_same hM (by simp [World.setCell]) (fun k e _ => setCell_heap_other (by show k ≠ br;have:=hxl k e;omega))
 have hx2:=hid (fun k e => (show w.heap.size ≤ k ∧ k < W2.heap.size by have:=hxl k e;omega));replace hM2:=hid hM2;replace hV2:=hid hV2;replace kk:=hid kk;replace hEq:=hid hEq;replace hW2:=hid hW2;clear HD c0 hsl hM b1 k2 hxl hz;go_wp2_with fail;go_ret;rw [hW2.out];exact ⟨rfl,⟨_,l',hV2.out,hM2.out,hEq.out,hx2.out⟩,kk.out⟩
theorem step5_ok (br:Nat) (s q:Value) (r:Rp) (vb vl vm:Value) (w:World) (hb:RV br vb r.fl vl vm w) (hR:RepW w vb vl vm r) (hW:WfR r) :
  Calls Tryz.prog 114 #[.pointer (some ⟨br,0,none⟩),s,q] w fun e w' => e = .returned (.int .i64 0) ∧ Below w.heap.size w w':=by
 have HM:=hid (Fo.may_ok vb vl vm r w hR hW);unfold repV at HM;unfold RV repO at hb;have c0:=(show w.cell? ⟨br,0,none⟩ = some vb from cell_at hb 0);have c1:=(show w.cell? ⟨br,1,none⟩ = some (.int .i64 r.fl.c) from cell_at hb 1);have c2:=(show w.cell? ⟨br,2,none⟩ = some (.int .i64 r.fl.r) from cell_at hb 2);have c3:=(show w.cell? ⟨br,3,none⟩ = some vl from cell_at hb 3);have c4:=(show w.cell? ⟨br,4,none⟩ = some vm from cell_at hb 4);clear hb hR hW;go_enter Tryz.func114,Tryz.ntmps114;go_wp2_with fail;refine HM.out.mono ?_
 rintro e w1 ⟨rfl,b1⟩;replace b1:=hid b1;go_wp2_with fail;go_ret;exact ⟨rfl,b1.out⟩
end St
end
section
open Go.RowKit Go.Shelf
attribute [local go_sem] Fl.run_store_float
namespace St
open Mem Tp Tr Mo Fo Sn Og
structure EqP (r r':Rp):Prop where
 b:EqR r.base r'.base
 f:r'.fl = r.fl
 l:EqM r.log r'.log
 m:r'.mks = r.mks
theorem nrmM_t {l l':List Mv} (h:l'.map nrmM = l.map nrmM):l'.map (fun m => m.t) = l.map (fun m => m.t):=by
 have:=congrArg (List.map (fun m:Mv => m.t)) h;rw [List.map_map,List.map_map] at this;exact this
theorem nrmM_mem {l l':List Mv} (h:l'.map nrmM = l.map nrmM) {x:Mv} (hx:x ∈ l'):∃ y ∈ l,nrmM x = nrmM y:=by
 have:nrmM x ∈ l.map nrmM:=by rw [← h];exact List.mem_map_of_mem hx
 obtain ⟨y,hy,e⟩:=List.mem_map.1 this;exact ⟨y,hy,e.symm⟩
theorem oneM_eq {x y:Mv} (h:nrmM x = nrmM y):oneM x = oneM y:=by
 have h1:oneM (nrmM x) = oneM x:=rfl;have h2:oneM (nrmM y) = oneM y:=rfl;rw [← h1,← h2,h]
theorem ofM_t (l:List Mv):ofM l = (l.map (fun m => m.t)).foldl raiseM []:=by unfold ofM;rw [List.foldl_map]
theorem len_eqM {l l':List Mv} (h:l'.map nrmM = l.map nrmM):l'.length = l.length:=by have:=congrArg List.length h;simpa using this
theorem wf_eq {r r':Rp} (h:WfR r) (e:EqP r r'):WfR r':=by
 have eb:=e.b.1;have el:=e.l.1;have et:=nrmM_t el
 have ho:ofM r'.log = ofM r.log:=by rw [ofM_t,ofM_t,et]
 refine ⟨rise_eq eb h.rise,fun x hx => ?_,fun x hx => ?_,?_,fun m hm => ?_,by rw [e.m];exact h.mks,by rw [ho,e.m];exact h.below,by rw [e.f,e.m];exact h.fl,?_,by rw [nrm_len eb,len_eqM el];exact h.len,by rw [e.m];exact h.mlen⟩
 ·obtain ⟨y,hy,q⟩:=nrm_mem eb hx
  rw [one_eq q];exact h.one y hy
 ·obtain ⟨y,hy,q⟩:=nrm_mem eb hx
  rw [above_eq eb,nrm_ch q];exact h.acyc y hy
 ·have h1:(r.log.map (fun m => m.t)).Pairwise (fun a b => bef a b = true):=List.pairwise_map.2 h.lrise
  rw [← et] at h1;exact List.pairwise_map.1 h1
 ·obtain ⟨y,hy,q⟩:=nrmM_mem el hm
  rw [oneM_eq q];exact h.lone y hy
 ·have h1:=h.abv
  unfold since at h1 ⊢;rw [List.filter_eq_self] at h1 ⊢;intro m hm;obtain ⟨y,hy,q⟩:=nrmM_mem el hm
  have ht:m.t = y.t:=show (nrmM m).t = (nrmM y).t by rw [q]
  rw [e.f,ht];exact h1 y hy
theorem rk_eq {r r':Rp} (e:EqP r r'):RkR r':=⟨e.b.2,e.l.2⟩
def stepsV:Value:=.agg #[.func (.func 106) #[] #[],.func (.func 108) #[] #[],.func (.func 110) #[] #[],.func (.func 112) #[] #[],.func (.func 114) #[] #[]]
theorem steps_results (tmps:Array Value) (w:World) (B:Nat) (h:tmps.getD 0 undef = .pointer (some ⟨B,0,none⟩))
  (hw:w.heap[B]? = some (.cells #[.func (.func 106) #[] #[],.func (.func 108) #[] #[],.func (.func 110) #[] #[],.func (.func 112) #[] #[],.func (.func 114) #[] #[]] 123 (0,0))) :
  (results Tryz.f62 tmps).run Tryz.prog w = .ok stepsV w:=by
 have hr:Tryz.f62.results = #[.cell 0 123]:=rfl;have c0:=cell_at hw 0;have c1:=cell_at hw 1;have c2:=cell_at hw 2;have c3:=cell_at hw 3;have c4:=cell_at hw 4;simp only [results,hr];simp only [Array.getD_eq_getD_getElem?] at h;simp [Sem.run_bind,Result.andThen,h,go_sem];simp [c0,c1,c2,c3,c4]
 rfl
theorem steps_any (w:World):Calls Tryz.prog 62 #[] w fun e w' => e = .returned stepsV ∧ Below w.heap.size w w':=by
 go_enter Tryz.func62,Tryz.ntmps62;go_wp2_with fail;refine bodyPost_ret (steps_results _ _ w.heap.size rfl ((alloc_new w _).trans rfl)) rfl ?_
 exact ⟨rfl,(Below.refl _ _).alloc (Nat.le_refl _) _⟩
theorem file_ver {r:Rp} (hf:((allC r).flatMap Ck.oneL).length ≤ 90000):Ck.verE (fileS r) = 0 ∧ Ck.verN (fileS r) = 2 ∧ Ck.splitE (fileS r) = 0 ∧ Ck.splitL (fileS r) = allC r:=by
 have hj:=join_all hf;obtain ⟨h1,h2,h3⟩:=Ck.split_join hj
 have hv:Ck.verE (fileS r) = 0:=Decidable.byContradiction fun h => by
  have:=Ck.splitE_ver h;unfold fileS at this h;rw [h1] at this;exact h this.symm
 refine ⟨hv,?_,h1,h2⟩
 have h3':Ck.splitV (fileS r) = 2:=h3;have h1':Ck.splitE (fileS r) = 0:=h1;unfold Ck.splitV at h3';rw [if_pos h1'] at h3';exact h3'
end St
end
section
open Go.RowKit Go.Shelf
attribute [local go_sem] Fl.run_store_float
namespace St
open Mem Tp Tr Mo Fo Sn Og
def rep0:Obj:=.cells #[.slice none 0 0,.int .i64 0,.int .i64 0,.slice none 0 0,.slice none 0 0] 34
def chs0:Obj:=.cells #[.slice none 0 0] 53
theorem index_step0 (w:World):(Instr.index 123 (.agg #[.func (.func 106) #[] #[],.func (.func 108) #[] #[],.func (.func 110) #[] #[],.func (.func 112) #[] #[],.func (.func 114) #[] #[]]) (.int .i64 0)).run Tryz.prog w = .ok (.func (.func 106) #[] #[]) w:=by kernel_rfl
theorem index_step1 (w:World):(Instr.index 123 (.agg #[.func (.func 106) #[] #[],.func (.func 108) #[] #[],.func (.func 110) #[] #[],.func (.func 112) #[] #[],.func (.func 114) #[] #[]]) (.int .i64 1)).run Tryz.prog w = .ok (.func (.func 108) #[] #[]) w:=by kernel_rfl
theorem index_step2 (w:World):(Instr.index 123 (.agg #[.func (.func 106) #[] #[],.func (.func 108) #[] #[],.func (.func 110) #[] #[],.func (.func 112) #[] #[],.func (.func 114) #[] #[]]) (.int .i64 2)).run Tryz.prog w = .ok (.func (.func 110) #[] #[]) w:=by kernel_rfl
theorem index_step3 (w:World):(Instr.index 123 (.agg #[.func (.func 106) #[] #[],.func (.func 108) #[] #[],.func (.func 110) #[] #[],.func (.func 112) #[] #[],.func (.func 114) #[] #[]]) (.int .i64 3)).run Tryz.prog w = .ok (.func (.func 112) #[] #[]) w:=by kernel_rfl
theorem index_step4 (w:World):(Instr.index 123 (.agg #[.func (.func 106) #[] #[],.func (.func 108) #[] #[],.func (.func 110) #[] #[],.func (.func 112) #[] #[],.func (.func 114) #[] #[]]) (.int .i64 4)).run Tryz.prog w = .ok (.func (.func 114) #[] #[]) w:=by kernel_rfl
attribute [local go_sem] index_step0 index_step1 index_step2 index_step3 index_step4
theorem kept_below {w W W':World} {b:Nat} (h:Below w.heap.size w W) (k:Kept (· = b) W W') (hb:w.heap.size ≤ b):Below w.heap.size w W':=
 ⟨k.os.trans h.os,k.tape.trans h.tape,k.output.trans h.output,Nat.le_trans h.size k.size,fun j hj => (k.block j (Nat.lt_of_lt_of_le hj h.size) (by omega)).trans (h.block j hj)⟩
theorem kept_at {W W':World} {b x:Nat} {o:Obj} (k:Kept (· = b) W W') (h:W.heap[x]? = some o) (hx:x ≠ b):W'.heap[x]? = some o:=
 (k.block x (lt_of_block h) hx).trans h
theorem chs_rv {W:World} {cb co n c br:Nat} {l:List Ck.Ch} {vb vl vm:Value} {fl:Tm} (hC:Ck.Chs W (.slice (some ⟨cb,co,none⟩) n c) l) (h0:0 < l.length) (h:RV br vb fl vl vm W) (hl:∀ s,vl ≠ .string s) (hm:∀ s,vm ≠ .string s):cb ≠ br:=by
 rintro rfl;have:=(Ck.chs_at hC (j:=0) h0).2.2;unfold RV repO at h;rw [cell_at h] at this
 rcases hj:co + 0 * 2 + 1 with _ | _ | _ | _ | _ | j
 ·omega
 ·rw [hj] at this;simp at this
 ·rw [hj] at this;simp at this
 ·rw [hj] at this;simp at this;exact hl _ this
 ·rw [hj] at this;simp at this;exact hm _ this
 ·rw [hj] at this;simp at this
theorem load_ok (r:Rp) (w:World) (hW:WfR r) (hk:RkR r) (hf:((allC r).flatMap Ck.oneL).length ≤ 90000) (hs:(fileS r).size ≤ 10000) :
  Calls Tryz.prog 31 #[.string (fileS r)] w fun e w' => (∃ vb vl vm r',e = .returned (.tuple #[repV vb r'.fl vl vm,.int .i64 0]) ∧ RepW w' vb vl vm r' ∧ EqP r r' ∧
   (∀ k,vb.ownBlock = some k → w.heap.size ≤ k) ∧ (∀ k,vl.ownBlock = some k → w.heap.size ≤ k) ∧ (∀ k,vm.ownBlock = some k → w.heap.size ≤ k)) ∧ Below w.heap.size w w':=by
 obtain ⟨v1,v2,v3,v4⟩:=file_ver hf;generalize fileS r = s at *;obtain ⟨W0,hW0⟩:∃ W0,((w.alloc rep0).alloc rep0).alloc chs0 = W0:=⟨_,rfl⟩
 have hb0:Below w.heap.size w W0:=by
  rw [← hW0];exact (((Below.refl w.heap.size w).alloc (Nat.le_refl _) rep0).alloc (by simp) rep0).alloc (by simp;omega) chs0
 have hz0:W0.heap.size = w.heap.size + 1 + 1 + 1:=by rw [← hW0];simp
 have g0:W0.heap[w.heap.size]? = some rep0:=by rw [← hW0];exact alloc_at _ (alloc_at _ (alloc_new w _))
 have g1:W0.heap[w.heap.size + 1]? = some rep0:=by
  rw [← hW0];have:=alloc_new (w.alloc rep0) rep0;exact alloc_at _ (by simpa using this)
 have g2:W0.heap[w.heap.size + 1 + 1]? = some chs0:=by
  rw [← hW0];have:=alloc_new ((w.alloc rep0).alloc rep0) chs0
  simpa using this
 replace hW0:=hid hW0;go_enter Tryz.func31,Tryz.ntmps31;go_wp2_with fail;refine (steps_any _).mono ?_
 rintro e w1 ⟨rfl,b1⟩
 replace b1:Below W0.heap.size W0 w1:=by rw [← hW0.out];exact b1
 have R1:RV (w.heap.size + 1) (.slice none 0 0) ⟨0,0⟩ (.slice none 0 0) (.slice none 0 0) w1:=below_at b1 g1 (by omega);have L1:CV (w.heap.size + 1 + 1) (.slice none 0 0) w1:=below_at b1 g2 (by omega);have G1:w1.heap[w.heap.size]? = some rep0:=below_at b1 g0 (by omega);have s1:=b1.size;have K1:Below w.heap.size w w1:=hb0.trans (b1.mono (by omega));have S1:=hid (step1_ok (.pointer (some ⟨w.heap.size + 1,0,none⟩)) (.pointer (some ⟨w.heap.size + 1 + 1,0,none⟩)) s w1 v1 v2);replace K1:=hid K1;replace R1:=hid R1;replace L1:=hid L1;replace G1:=hid G1
 replace v1:=hid v1;replace v2:=hid v2;replace v3:=hid v3;replace v4:=hid v4;replace hs:=hid hs;clear hb0 g0 g1 g2 hW0 b1;unfold stepsV;go_wp2_with fail;refine wp_loop_rounds 6 ?_
 rw [rounds_succ];go_wp2_with fail;refine S1.out.mono ?_
 rintro e w2 ⟨rfl,b2⟩
 have h8:(Ck.splitL s).length = 8:=by rw [v4.out];rfl
 have s2:=b2.size;have R2:RV (w.heap.size + 1) (.slice none 0 0) ⟨0,0⟩ (.slice none 0 0) (.slice none 0 0) w2:=below_at b2 R1.out (by omega);have L2:CV (w.heap.size + 1 + 1) (.slice none 0 0) w2:=below_at b2 L1.out (by omega);have G2:w2.heap[w.heap.size]? = some rep0:=below_at b2 G1.out (by omega);have K2:Below w.heap.size w w2:=K1.out.trans (b2.mono (by omega));have S2:=hid (step2_ok (.pointer (some ⟨w.heap.size + 1,0,none⟩)) (w.heap.size + 1 + 1) s w2 L2 hs.out v3.out h8);replace K2:=hid K2;replace R2:=hid R2;replace G2:=hid G2;clear S1 K1 R1 L1 G1 b2 L2
 go_wp2_with fail;rw [rounds_succ];go_wp2_with fail;refine S2.out.mono ?_
 rintro e w3 ⟨rfl,⟨cb,co,cap,L3,h8',C3⟩,k3⟩;rw [v4.out] at C3;have s3:=k3.size;have R3:RV (w.heap.size + 1) (.slice none 0 0) ⟨0,0⟩ (.slice none 0 0) (.slice none 0 0) w3:=kept_at k3 R2.out (by omega);have G3:w3.heap[w.heap.size]? = some rep0:=kept_at k3 G2.out (by omega);have K3:Below w.heap.size w w3:=kept_below K2.out k3 (by omega);have hne:=chs_rv C3 (by show 0 < 8;decide) R3 (by intro s e;cases e) (by intro s e;cases e);have S3:=hid (step3_ok (w.heap.size + 1) (w.heap.size + 1 + 1) cb co cap (.string s) r w3 R3 L3 h8' C3 hW hk);replace K3:=hid K3
 replace L3:=hid L3;replace C3:=hid C3;replace G3:=hid G3;clear S2 K2 R2 G2 k3 R3 v4 v3 h8 hs;go_wp2_with fail;rw [rounds_succ];go_wp2_with fail;refine S3.out.mono ?_
 rintro e w4 ⟨rfl,⟨vb,vm,base',R4,hB4,hE4,hM4,x4b,x4m⟩,k4⟩;have s4:=k4.size;have L4:CV (w.heap.size + 1 + 1) (.slice (some ⟨cb,co,none⟩) 8 cap) w4:=kept_at k4 L3.out (by omega);have C4:Ck.Chs w4 (.slice (some ⟨cb,co,none⟩) 8 cap) (allC r):=chs_same C3.out s4 (fun j e => k4.block j (by have:=(Ck.chs_at C3.out (j:=0) (by show 0 < 8;decide)).1;cases e;exact this) (by cases e;exact hne));have G4:w4.heap[w.heap.size]? = some rep0:=kept_at k4 G3.out (by omega);have K4:Below w.heap.size w w4:=kept_below K3.out k4 (by omega)
 have S4:=hid (step4_ok (w.heap.size + 1) (w.heap.size + 1 + 1) cb co cap (.string s) r vb vm w4 R4 L4 h8' C4 hW hk);replace K4:=hid K4;replace G4:=hid G4;replace hB4:=hid hB4;replace hM4:=hid hM4;replace hE4:=hid hE4;clear S3 K3 L3 C3 G3 k4 R4 L4 C4 h8';go_wp2_with fail;rw [rounds_succ];go_wp2_with fail;refine S4.out.mono ?_
 rintro e w5 ⟨rfl,⟨vl,l',R5,hL5,hE5,x5l⟩,k5⟩;have s5:=k5.size
 have hR5:RepW w5 vb vl vm ⟨base',r.fl,l',r.mks⟩:=⟨sl_same hB4.out s5 (fun j e _ => k5.block j (by have:=x4b j e;omega) (by have:=x4b j e;omega)),hL5,sl_same hM4.out s5 (fun j e _ => k5.block j (by have:=x4m j e;omega) (by have:=x4m j e;omega)),
  (fun j e => by have:=x4b j e;omega),(fun j e => (x5l j e).2),(fun j e => by have:=x4m j e;omega)⟩
 have hEq:EqP r ⟨base',r.fl,l',r.mks⟩:=⟨hE4.out,rfl,hE5,rfl⟩;have hW5:=wf_eq hW hEq;have G5:w5.heap[w.heap.size]? = some rep0:=kept_at k5 G4.out (by omega);have K5:Below w.heap.size w w5:=kept_below K4.out k5 (by omega);have S5:=hid (step5_ok (w.heap.size + 1) (.string s) (.pointer (some ⟨w.heap.size + 1 + 1,0,none⟩)) ⟨base',r.fl,l',r.mks⟩ vb vl vm w5 R5 hR5 hW5)
 have x5b:∀ j,vb.ownBlock = some j → w.heap.size + 1 + 1 + 1 ≤ j:=fun j e => by have:=x4b j e;omega
 have x5m:∀ j,vm.ownBlock = some j → w.heap.size + 1 + 1 + 1 ≤ j:=fun j e => by have:=x4m j e;omega
 have x5l':∀ j,vl.ownBlock = some j → w.heap.size + 1 + 1 + 1 ≤ j:=fun j e => by have:=x5l j e;omega
 replace K5:=hid K5;replace G5:=hid G5;replace R5:=hid R5;replace hR5:=hid hR5;replace hEq:=hid hEq;replace x5b:=hid x5b;replace x5m:=hid x5m;replace x5l':=hid x5l';clear S4 K4 G4 hB4 hM4 hE4 hE5 hL5 k5 x4b x4m x5l hW5;go_wp2_with fail;rw [rounds_succ];go_wp2_with fail;refine S5.out.mono ?_
 rintro e w6 ⟨rfl,b6⟩;have s6:=b6.size;have R6:RV (w.heap.size + 1) vb r.fl vl vm w6:=below_at b6 R5.out (by omega);have G6:w6.heap[w.heap.size]? = some rep0:=below_at b6 G5.out (by omega);have K6:Below w.heap.size w w6:=K5.out.trans (b6.mono (by omega));have hR6:=hR5.out.below b6;replace K6:=hid K6;clear S5 K5 G5 R5 hR5 b6;go_wp2_with fail;rw [rounds_succ];obtain ⟨ab,kb,eb⟩:=hR6.b.len;subst eb;obtain ⟨al,kl,el⟩:=hR6.l.len;subst el;obtain ⟨am,km,em⟩:=hR6.m.len;subst em;unfold RV repO at R6;unfold rep0 at G6
 have c0:=(show w6.cell? ⟨w.heap.size + 1,0,none⟩ = some _ from cell_at R6 0);have c1:=(show w6.cell? ⟨w.heap.size + 1,1,none⟩ = some _ from cell_at R6 1);have c2:=(show w6.cell? ⟨w.heap.size + 1,2,none⟩ = some _ from cell_at R6 2);have c3:=(show w6.cell? ⟨w.heap.size + 1,3,none⟩ = some _ from cell_at R6 3);have c4:=(show w6.cell? ⟨w.heap.size + 1,4,none⟩ = some _ from cell_at R6 4)
 have ones:Hid (∀ v ∈ [Value.slice ab base'.length kb,.int .i64 r.fl.c,.int .i64 r.fl.r,.slice al l'.length kl,.slice am r.mks.length km],v.oneCell' = true):=hid (by
  intro v hv;simp only [List.mem_cons,List.not_mem_nil,or_false] at hv
  rcases hv with rfl | rfl | rfl | rfl | rfl <;> rfl)
 replace hR6:=hid hR6;clear R6
 go_wp2_with (refine wpList_store_splice (by rfl) 34 _ _ (by rfl) w.heap.size 0 [.slice ab base'.length kb,.int .i64 r.fl.c,.int .i64 r.fl.r,.slice al l'.length kl,.slice am r.mks.length km] (by rfl) (by rfl) 34 [.slice none 0 0,.int .i64 0,.int .i64 0,.slice none 0 0,.slice none 0 0] G6 (info_rep.trans rfl) (by simp) ones.out ?_;intro w7 hg7 hB7 hO7)
 have hs7:w6.heap.size ≤ w7.heap.size:=(hB7.out 0 _ (Below.refl 0 _) (Nat.zero_le _)).size;have hb7:=hB7.out w.heap.size w K6.out (Nat.le_refl _);refine bodyPost_ret (rep_resultsAt Tryz.f31 2 3 rfl _ w7 w.heap.size r.fl _ _ _ rfl (hg7.out.trans rfl)) rfl ?_
 have x1:=x5b.out;have x2:=x5l'.out;have x3:=x5m.out
 exact ⟨⟨_,_,_,⟨base',r.fl,l',r.mks⟩,rfl,hR6.out.same hs7 (fun k e => hO7.out k (by
  intro h;subst h
  rcases e with e | e | e
  ·have:=x1 _ e;omega
  ·have:=x2 _ e;omega
  ·have:=x3 _ e;omega)),hEq.out,fun k e => by have:=x1 k e;omega,fun k e => by have:=x2 k e;omega,fun k e => by have:=x3 k e;omega⟩,hb7⟩
end St
end
section
open Go.RowKit Go.Shelf
attribute [local go_sem] Fl.run_store_float
namespace Pl
open Mem Tp Tr Mo Fo Sn Og St
structure R3 where
 b:Value
 l:Value
 m:Value
abbrev X3:=R3 × Rp
def repC (x:X3):List Value:=[x.1.b,.int .i64 x.2.fl.c,.int .i64 x.2.fl.r,x.1.l,x.1.m]
theorem repC_len (x:X3):(repC x).length = 5:=rfl
def rpV (x:X3):Value:=repV x.1.b x.2.fl x.1.l x.1.m
def RepX (W:World) (x:X3):Prop:=RepW W x.1.b x.1.l x.1.m x.2
def blocks (x:X3) (k:Nat):Prop:=x.1.b.ownBlock = some k ∨ x.1.l.ownBlock = some k ∨ x.1.m.ownBlock = some k
theorem RepX.lt {W:World} {x:X3} (h:RepX W x) {k:Nat} (hk:blocks x k):k < W.heap.size:=by
 rcases hk with e | e | e
 ·exact h.xb k e
 ·exact h.xl k e
 ·exact h.xm k e
theorem RepX.same {W W':World} {x:X3} (h:RepX W x) (hs:W.heap.size ≤ W'.heap.size) (hsame:∀ k,blocks x k → W'.heap[k]? = W.heap[k]?):RepX W' x:=RepW.same h hs hsame
structure PW (W:World) (base p b:Nat) (vp:Value) (xs:List X3) (pool:List Mv):Prop where
 hp:W.heap[p]? = some (.cells #[.slice (some ⟨b,0,none⟩) xs.length xs.length,vp] 89 (0,0))
 hb:W.heap[b]? = some (.cells (xs.flatMap repC).toArray 34 (0,0))
 pb:p ≠ b
 bp:base ≤ p
 bb:base ≤ b
 own:W.ownsRow base 49 6 vp pool.length (pool.flatMap movC)
 pp:∀ k,vp.ownBlock = some k → k ≠ p ∧ k ≠ b
 rep:∀ x ∈ xs,RepX W x
 sep:∀ x ∈ xs,∀ k,blocks x k → k ≠ p ∧ k ≠ b ∧ vp.ownBlock ≠ some k
 n1:1 ≤ xs.length
 n8:xs.length ≤ 8
theorem PW.below {W W':World} {base p b:Nat} {vp:Value} {xs:List X3} {pool:List Mv} (h:PW W base p b vp xs pool) (k:Below W.heap.size W W'):PW W' base p b vp xs pool:=
 ⟨below_at k h.hp (lt_of_block h.hp),below_at k h.hb (lt_of_block h.hb),h.pb,h.bp,h.bb,own_below h.own k,h.pp,fun x hx => RepW.below (h.rep x hx) k,h.sep,h.n1,h.n8⟩
theorem PW.cells {W:World} {base p b:Nat} {vp:Value} {xs:List X3} {pool:List Mv} (h:PW W base p b vp xs pool) {k:Nat} {x:X3} (hx:xs[k]? = some x) :
  W.cell? ⟨b,k * 5,none⟩ = some x.1.b ∧ W.cell? ⟨b,k * 5 + 1,none⟩ = some (.int .i64 x.2.fl.c) ∧ W.cell? ⟨b,k * 5 + 2,none⟩ = some (.int .i64 x.2.fl.r) ∧ W.cell? ⟨b,k * 5 + 3,none⟩ = some x.1.l ∧ W.cell? ⟨b,k * 5 + 4,none⟩ = some x.1.m:=by
 have hf:=fun i (hi:i < 5) => flat_at (f:=repC) (k:=5) repC_len xs k x hx i hi
 refine ⟨?_,?_,?_,?_,?_⟩
 ·rw [cell_at h.hb (k * 5)];simpa [repC] using hf 0 (by decide)
 ·rw [cell_at h.hb (k * 5 + 1)];simpa [repC] using hf 1 (by decide)
 ·rw [cell_at h.hb (k * 5 + 2)];simpa [repC] using hf 2 (by decide)
 ·rw [cell_at h.hb (k * 5 + 3)];simpa [repC] using hf 3 (by decide)
 ·rw [cell_at h.hb (k * 5 + 4)];simpa [repC] using hf 4 (by decide)
theorem replica_any {base p b:Nat} {vp:Value} {xs:List X3} {pool:List Mv} (w:World) (hP:PW w base p b vp xs pool) (k:Nat) (x:X3) (hx:xs[k]? = some x) :
  Calls Tryz.prog 12 #[.pointer (some ⟨p,0,none⟩),.int .i64 ((k:Int) + 1)] w fun e w' => e = .returned (.tuple #[rpV x,.bool true]) ∧ Below w.heap.size w w':=by
 have hkn:=(List.getElem?_eq_some_iff.1 hx).1;have hb0:=(Below.refl w.heap.size w).alloc (Nat.le_refl _) rep0;have hP0:=hP.below hb0;have hg:=alloc_new w rep0;have n8:=hP.n8;have hR:=hP.rep x (List.mem_of_getElem? hx);obtain ⟨⟨vb,vl,vm⟩,⟨xb,xf,xl,xm⟩⟩:=x;obtain ⟨ab,kb,eb⟩:=hR.b.len;obtain ⟨al,kl,el⟩:=hR.l.len;obtain ⟨am,km,em⟩:=hR.m.len;simp only at eb el em;subst eb el em;obtain ⟨c0,c1,c2,c3,c4⟩:=hP0.cells hx;have d0:=(show (w.alloc rep0).cell? ⟨p,0,none⟩ = some (.slice (some ⟨b,0,none⟩) xs.length xs.length) from cell_at hP0.hp 0)
 have t1:¬ (k:Int) + 1 < 1:=by omega
 have t2:¬ (xs.length:Int) < (k:Int) + 1:=by omega
 have t3:(0:Int) ≤ (k:Int) ∧ (k:Int) < (xs.length:Int):=by omega
 simp only at c0 c1 c2 c3 c4;unfold rep0 at *
 have ones:Hid (∀ v ∈ [Value.slice ab xb.length kb,.int .i64 xf.c,.int .i64 xf.r,.slice al xl.length kl,.slice am xm.length km],v.oneCell' = true):=hid (by
  intro v hv;simp only [List.mem_cons,List.not_mem_nil,or_false] at hv
  rcases hv with rfl | rfl | rfl | rfl | rfl <;> rfl)
 replace hb0:=hid hb0;clear hP hP0 hR hx;go_enter Tryz.func12,Tryz.ntmps12;go_wp2_with fail;refine bodyPost_ret (rep_resultsAt Tryz.f12 4 5 rfl _ _ w.heap.size xf _ _ _ rfl ((alloc_new w _).trans rfl)) rfl ?_
 exact ⟨rfl,(Below.refl w.heap.size w).alloc (Nat.le_refl _) _⟩
theorem replica_not {base p b:Nat} {vp:Value} {xs:List X3} {pool:List Mv} (w:World) (hP:PW w base p b vp xs pool) (who:Int) (hw:who < 1 ∨ (xs.length:Int) < who) :
  Calls Tryz.prog 12 #[.pointer (some ⟨p,0,none⟩),.int .i64 who] w fun e w' => e = .returned (.tuple #[repV (.slice none 0 0) ⟨0,0⟩ (.slice none 0 0) (.slice none 0 0),.bool false]) ∧ Below w.heap.size w w':=by
 have hb0:=(Below.refl w.heap.size w).alloc (Nat.le_refl _) rep0;have hP0:=hP.below hb0;have n8:=hP.n8;have n1:=hP.n1;have d0:=(show (w.alloc rep0).cell? ⟨p,0,none⟩ = some (.slice (some ⟨b,0,none⟩) xs.length xs.length) from cell_at hP0.hp 0);unfold rep0 at *;replace hb0:=hid hb0;clear hP hP0;go_enter Tryz.func12,Tryz.ntmps12
 by_cases t1:who < 1
 ·clear hw
  go_wp2_with fail;refine bodyPost_ret (rep_resultsAt Tryz.f12 4 5 rfl _ _ w.heap.size ⟨0,0⟩ _ _ _ rfl ((alloc_new w _).trans rfl)) rfl ?_
  exact ⟨rfl,(Below.refl w.heap.size w).alloc (Nat.le_refl _) _⟩
 ·have t2:(xs.length:Int) < who:=by omega
  clear hw;go_wp2_with fail;refine bodyPost_ret (rep_resultsAt Tryz.f12 4 5 rfl _ _ w.heap.size ⟨0,0⟩ _ _ _ rfl ((alloc_new w _).trans rfl)) rfl ?_
  exact ⟨rfl,(Below.refl w.heap.size w).alloc (Nat.le_refl _) _⟩
end Pl
end
section
open Go.RowKit Go.Shelf
attribute [local go_sem] Fl.run_store_float
namespace Pl
open Mem Tp Tr Mo Fo Sn Og St
def dedV (d:Dd):Value:=.agg #[.int .i64 d.kind,.int .i64 d.who,.int .i64 d.frm,.int .i64 d.at_,.int .i64 d.pa,.int .i64 d.ch,.string d.nm,.float .f64 d.rk]
def BackX (w w':World) (x y:X3):Prop:=RepX w' y ∧ ∀ k,blocks y k → blocks x k ∨ w.heap.size ≤ k
theorem BackX.of {w w0 w':World} {x:X3} {vb vl vm:Value} {r:Rp} (h:Back w0 w' x.1.b x.1.l x.1.m vb vl vm r) (hs:w.heap.size ≤ w0.heap.size):BackX w w' x (⟨vb,vl,vm⟩,r):=by
 refine ⟨h.r,fun k hk => ?_⟩
 rcases hk with e | e | e
 ·rcases h.nb k e with q | q
  ·exact .inl (.inl q)
  ·exact .inr (by omega)
 ·rcases h.nl k e with q | q
  ·exact .inl (.inr (.inl q))
  ·exact .inr (by omega)
 ·rcases h.nm k e with q | q
  ·exact .inl (.inr (.inr q))
  ·exact .inr (by omega)
def dedO (d:Dd):Obj:=.cells #[.int .i64 d.kind,.int .i64 d.who,.int .i64 d.frm,.int .i64 d.at_,.int .i64 d.pa,.int .i64 d.ch,.string d.nm,.float .f64 d.rk] 63
def rpO (x:X3):Obj:=repO x.1.b x.2.fl x.1.l x.1.m
theorem prune_any (p:Value) (x:X3) (d:Dd) (w:World) (hX:RepX w x) (hW:WfR x.2) :
  Calls Tryz.prog 52 #[p,rpV x,dedV d] w fun e w' => (∃ y:X3,e = .returned (.tuple #[rpV y,.int .i64 (pruneR x.2 ⟨d.at_,d.frm⟩).2]) ∧ y.2 = (pruneR x.2 ⟨d.at_,d.frm⟩).1 ∧ BackX w w' x y) ∧ Below w.heap.size w w':=by
 obtain ⟨W0,hW0⟩:∃ W0,lay w [rpO x,dedO d,rep0] = W0:=⟨_,rfl⟩
 have hb0:Below w.heap.size w W0:=by rw [← hW0];exact lay_below _ _
 have hs0:W0.heap.size = w.heap.size + 3:=by rw [← hW0];exact lay_size _ _
 have g2:W0.heap[w.heap.size + 2]? = some rep0:=by rw [← hW0];exact lay_at _ w 2 _ rfl
 have hX0:RepX W0 x:=RepW.below hX hb0;have HP:=hid (Fo.prune_any x.1.b x.1.l x.1.m x.2 ⟨d.at_,d.frm⟩ W0 hX0 hW)
 have hlt:∀ k,blocks x k → k < w.heap.size:=fun k hk => hX.lt hk
 obtain ⟨ab,kb,eb⟩:=hX.b.len;obtain ⟨al,kl,el⟩:=hX.l.len;obtain ⟨am,km,em⟩:=hX.m.len;obtain ⟨⟨vb,vl,vm⟩,r⟩:=x;simp only at eb el em;subst eb el em;simp only [lay,List.foldl_cons,List.foldl_nil,rpO,repO,dedO,rep0] at hW0;replace hb0:=hid hb0;replace hW0:=hid hW0;replace g2:=hid g2;clear hX hX0 hW;unfold rpV repV dedV;go_enter Tryz.func52,Tryz.ntmps52;go_wp2_with fail;rw [hW0.out];refine HP.out.mono ?_
 rintro e w1 ⟨⟨vb',vl',vm',rfl,hB⟩,b1⟩;have s1:=b1.size;have k2:w1.heap[w.heap.size + 1 + 1]? = some (.cells #[.slice none 0 0,.int .i64 0,.int .i64 0,.slice none 0 0,.slice none 0 0] 34 (0,0)):=below_at b1 g2.out (by omega);have hb1:=hid (hb0.out.trans (b1.mono (by omega)));obtain ⟨q,hq⟩:∃ q,pruneR r ⟨d.at_,d.frm⟩ = q:=⟨_,rfl⟩;simp only [hq] at hB ⊢;replace hq:=hid hq;have hX1:=BackX.of (w:=w) (x:=(⟨.slice ab r.base.length kb,.slice al r.log.length kl,.slice am r.mks.length km⟩,r)) hB (by omega);obtain ⟨ab',kb',eb⟩:=hB.r.b.len;subst eb
 obtain ⟨al',kl',el⟩:=hB.r.l.len;subst el;obtain ⟨am',km',em⟩:=hB.r.m.len;subst em
 have hbx:∀ k,blocks (⟨.slice ab' q.1.base.length kb',.slice al' q.1.log.length kl',.slice am' q.1.mks.length km'⟩,q.1) k → k ≠ w.heap.size + 1 + 1:=by
  rintro k (e | e | e) rfl
  ·rcases hB.nb _ e with h | h
   ·exact absurd (hlt _ (.inl h)) (by omega)
   ·omega
  ·rcases hB.nl _ e with h | h
   ·exact absurd (hlt _ (.inr (.inl h))) (by omega)
   ·omega
  ·rcases hB.nm _ e with h | h
   ·exact absurd (hlt _ (.inr (.inr h))) (by omega)
   ·omega
 have ones:Hid (∀ v ∈ [Value.slice ab' q.1.base.length kb',.int .i64 q.1.fl.c,.int .i64 q.1.fl.r,.slice al' q.1.log.length kl',.slice am' q.1.mks.length km'],v.oneCell' = true):=hid (by
  intro v hv;simp only [List.mem_cons,List.not_mem_nil,or_false] at hv
  rcases hv with rfl | rfl | rfl | rfl | rfl <;> rfl)
 replace hX1:=hid hX1;replace hbx:=hid hbx;clear HP hB b1 hlt;unfold repV
 go_wp2_with (refine wpList_store_splice (by rfl) 34 _ _ (by rfl) (w.heap.size + 1 + 1) 0 [.slice ab' q.1.base.length kb',.int .i64 q.1.fl.c,.int .i64 q.1.fl.r,.slice al' q.1.log.length kl',.slice am' q.1.mks.length km'] (by rfl) (by rfl) 34 [.slice none 0 0,.int .i64 0,.int .i64 0,.slice none 0 0,.slice none 0 0] k2 (info_rep.trans rfl) (by simp) ones.out ?_;intro w4 hg4 hB4 hO4)
 have hs9:w1.heap.size ≤ w4.heap.size:=(hB4.out 0 _ (Below.refl 0 _) (Nat.zero_le _)).size;refine bodyPost_ret (rep_resultsAt Tryz.f52 6 7 rfl _ w4 (w.heap.size + 1 + 1) q.1.fl _ _ _ rfl (hg4.out.trans rfl)) rfl ?_
 exact ⟨⟨(⟨.slice ab' q.1.base.length kb',.slice al' q.1.log.length kl',.slice am' q.1.mks.length km'⟩,q.1),by rw [hq.out];rfl,by rw [hq.out],hX1.out.1.same hs9 (fun k e => hO4.out k (hbx.out k e)),hX1.out.2⟩,hB4.out _ _ hb1.out (by omega)⟩
theorem reload_any (p:Value) (x:X3) (d:Dd) (w:World) (hX:RepX w x) (hW:WfR x.2) (hk:RkR x.2) (hf:((allC x.2).flatMap Ck.oneL).length ≤ 90000) (hz:(fileS x.2).size ≤ 10000) :
  Calls Tryz.prog 53 #[p,rpV x,dedV d] w fun e w' => (∃ y:X3,e = .returned (.tuple #[rpV y,.int .i64 0]) ∧ EqP x.2 y.2 ∧ BackX w w' x y) ∧ Below w.heap.size w w':=by
 obtain ⟨W0,hW0⟩:∃ W0,lay w [rpO x,dedO d,rep0] = W0:=⟨_,rfl⟩
 have hb0:Below w.heap.size w W0:=by rw [← hW0];exact lay_below _ _
 have hs0:W0.heap.size = w.heap.size + 3:=by rw [← hW0];exact lay_size _ _
 have g2:W0.heap[w.heap.size + 2]? = some rep0:=by rw [← hW0];exact lay_at _ w 2 _ rfl
 have hX0:RepX W0 x:=RepW.below hX hb0;have HS:=hid (save_any x.1.b x.1.l x.1.m x.2 W0 hX0 hW hk hf);have HL:=hid (fun W => load_ok x.2 W hW hk hf hz)
 have hlt:∀ k,blocks x k → k < w.heap.size:=fun k hk => hX.lt hk
 obtain ⟨ab,kb,eb⟩:=hX.b.len;obtain ⟨al,kl,el⟩:=hX.l.len;obtain ⟨am,km,em⟩:=hX.m.len;obtain ⟨⟨vb,vl,vm⟩,r⟩:=x;simp only at eb el em;subst eb el em;simp only [lay,List.foldl_cons,List.foldl_nil,rpO,repO,dedO,rep0] at hW0;replace hb0:=hid hb0;replace hW0:=hid hW0;replace g2:=hid g2;clear hX hX0 hW hk hf hz hlt;unfold rpV repV dedV;go_enter Tryz.func53,Tryz.ntmps53;go_wp2_with fail;rw [hW0.out];refine HS.out.mono ?_
 rintro e w0 ⟨rfl,b0⟩;have s0:=b0.size;have k0:w0.heap[w.heap.size + 1 + 1]? = some (.cells #[.slice none 0 0,.int .i64 0,.int .i64 0,.slice none 0 0,.slice none 0 0] 34 (0,0)):=below_at b0 g2.out (by omega);have hb1:=hid (hb0.out.trans (b0.mono (by omega)));replace k0:=hid k0;clear b0;go_wp2_with fail;refine (HL.out _).mono ?_
 rintro e w1 ⟨⟨vb',vl',vm',q,rfl,hR,hE,xb,xl,xm⟩,b1⟩;have s1:=b1.size;have k2:w1.heap[w.heap.size + 1 + 1]? = some (.cells #[.slice none 0 0,.int .i64 0,.int .i64 0,.slice none 0 0,.slice none 0 0] 34 (0,0)):=below_at b1 k0.out (by omega);have hb2:=hid (hb1.out.trans (b1.mono (by omega)));obtain ⟨ab',kb',eb⟩:=hR.b.len;subst eb;obtain ⟨al',kl',el⟩:=hR.l.len;subst el;obtain ⟨am',km',em⟩:=hR.m.len;subst em
 have hbx:∀ k,blocks (⟨.slice ab' q.base.length kb',.slice al' q.log.length kl',.slice am' q.mks.length km'⟩,q) k → w0.heap.size ≤ k:=by
  rintro k (e | e | e)
  ·exact xb k e
  ·exact xl k e
  ·exact xm k e
 have ones:Hid (∀ v ∈ [Value.slice ab' q.base.length kb',.int .i64 q.fl.c,.int .i64 q.fl.r,.slice al' q.log.length kl',.slice am' q.mks.length km'],v.oneCell' = true):=hid (by
  intro v hv;simp only [List.mem_cons,List.not_mem_nil,or_false] at hv
  rcases hv with rfl | rfl | rfl | rfl | rfl <;> rfl)
 replace hR:=hid (show RepX w1 (⟨.slice ab' q.base.length kb',.slice al' q.log.length kl',.slice am' q.mks.length km'⟩,q) from hR);replace hbx:=hid hbx;replace hE:=hid hE;clear HS HL b1 xb xl xm hb1 k0;unfold repV
 go_wp2_with (refine wpList_store_splice (by rfl) 34 _ _ (by rfl) (w.heap.size + 1 + 1) 0 [.slice ab' q.base.length kb',.int .i64 q.fl.c,.int .i64 q.fl.r,.slice al' q.log.length kl',.slice am' q.mks.length km'] (by rfl) (by rfl) 34 [.slice none 0 0,.int .i64 0,.int .i64 0,.slice none 0 0,.slice none 0 0] k2 (info_rep.trans rfl) (by simp) ones.out ?_;intro w4 hg4 hB4 hO4)
 have hs9:w1.heap.size ≤ w4.heap.size:=(hB4.out 0 _ (Below.refl 0 _) (Nat.zero_le _)).size;refine bodyPost_ret (rep_resultsAt Tryz.f53 6 7 rfl _ w4 (w.heap.size + 1 + 1) q.fl _ _ _ rfl (hg4.out.trans rfl)) rfl ?_
 exact ⟨⟨(⟨.slice ab' q.base.length kb',.slice al' q.log.length kl',.slice am' q.mks.length km'⟩,q),rfl,hE.out,hR.out.same hs9 (fun k e => hO4.out k (by have:=hbx.out k e;omega)),fun k e => .inr (by have:=hbx.out k e;omega)⟩,hB4.out _ _ hb2.out (by omega)⟩
end Pl
end
section
open Go.RowKit Go.Shelf
attribute [local go_sem] Fl.run_store_float
namespace Pl
open Mem Tp Tr Mo Fo Sn Og St
theorem deliver_not {base p b:Nat} {vp:Value} {xs:List X3} {pool:List Mv} (x:X3) (d:Dd) (w:World) (hP:PW w base p b vp xs pool) (hX:RepX w x) (hd:d.at_ < 0 ∨ (pool.length:Int) ≤ d.at_) :
  Calls Tryz.prog 51 #[.pointer (some ⟨p,0,none⟩),rpV x,dedV d] w fun e w' => e = .returned (.tuple #[rpV x,.int .i64 1]) ∧ Below w.heap.size w w':=by
 obtain ⟨W0,hW0⟩:∃ W0,lay w [rpO x,dedO d,rep0] = W0:=⟨_,rfl⟩
 have hb0:Below w.heap.size w W0:=by rw [← hW0];exact lay_below _ _
 have hs0:W0.heap.size = w.heap.size + 3:=by rw [← hW0];exact lay_size _ _
 have g0:W0.heap[w.heap.size]? = some (rpO x):=by rw [← hW0];exact lay_at _ w 0 _ rfl
 have g1:W0.heap[w.heap.size + 1]? = some (dedO d):=by rw [← hW0];exact lay_at _ w 1 _ rfl
 have g2:W0.heap[w.heap.size + 1 + 1]? = some rep0:=by rw [← hW0];exact lay_at _ w 2 _ rfl
 have hP0:=hP.below hb0;obtain ⟨ap,kp,ep⟩:=(own_sl hP.own).len;subst ep;obtain ⟨ab,kb,eb⟩:=hX.b.len;obtain ⟨al,kl,el⟩:=hX.l.len;obtain ⟨am,km,em⟩:=hX.m.len;obtain ⟨⟨vb,vl,vm⟩,r⟩:=x;simp only at eb el em;subst eb el em;simp only [lay,List.foldl_cons,List.foldl_nil,rpO,repO,dedO,rep0] at hW0 g0 g1 g2;have c0:=(show W0.cell? ⟨w.heap.size,0,none⟩ = some _ from cell_at g0 0);have c1:=(show W0.cell? ⟨w.heap.size,1,none⟩ = some _ from cell_at g0 1);have c2:=(show W0.cell? ⟨w.heap.size,2,none⟩ = some _ from cell_at g0 2)
 have c3:=(show W0.cell? ⟨w.heap.size,3,none⟩ = some _ from cell_at g0 3);have c4:=(show W0.cell? ⟨w.heap.size,4,none⟩ = some _ from cell_at g0 4);have e3:=(show W0.cell? ⟨w.heap.size + 1,3,none⟩ = some _ from cell_at g1 3);have q1:=(show W0.cell? ⟨p,1,none⟩ = some (.slice ap pool.length kp) from cell_at hP0.hp 1)
 have ones:Hid (∀ v ∈ [Value.slice ab r.base.length kb,.int .i64 r.fl.c,.int .i64 r.fl.r,.slice al r.log.length kl,.slice am r.mks.length km],v.oneCell' = true):=hid (by
  intro v hv;simp only [List.mem_cons,List.not_mem_nil,or_false] at hv
  rcases hv with rfl | rfl | rfl | rfl | rfl <;> rfl)
 replace hb0:=hid hb0;replace hW0:=hid hW0;clear hP hP0 hX g0 g1;unfold rpV repV dedV
 by_cases t1:d.at_ < 0
 ·clear hd
  have d1:decide (d.at_ < 0) = true:=decide_eq_true t1;go_enter Tryz.func51,Tryz.ntmps51;go_wp2_with fail;rw [hW0.out];go_quiet (fail);obtain ⟨W1,hW1⟩:∃ W1,W0.drewN nq = W1:=⟨_,rfl⟩;rw [hW1]
  have r0:W1.cell? ⟨w.heap.size,0,none⟩ = some (.slice ab r.base.length kb):=by rw [← hW1];exact c0
  have r1:W1.cell? ⟨w.heap.size,1,none⟩ = some (.int .i64 r.fl.c):=by rw [← hW1];exact c1
  have r2:W1.cell? ⟨w.heap.size,2,none⟩ = some (.int .i64 r.fl.r):=by rw [← hW1];exact c2
  have r3:W1.cell? ⟨w.heap.size,3,none⟩ = some (.slice al r.log.length kl):=by rw [← hW1];exact c3
  have r4:W1.cell? ⟨w.heap.size,4,none⟩ = some (.slice am r.mks.length km):=by rw [← hW1];exact c4
  have k2:W1.heap[w.heap.size + 1 + 1]? = some (.cells #[.slice none 0 0,.int .i64 0,.int .i64 0,.slice none 0 0,.slice none 0 0] 34 (0,0)):=by rw [← hW1];exact g2
  have hb1:Hid (Below w.heap.size w W1):=hid (by rw [← hW1];exact ⟨hb0.out.os,hb0.out.tape,hb0.out.output,hb0.out.size,hb0.out.block⟩);clear hW1 c0 c1 c2 c3 c4 g2
  go_wp2_with (refine wpList_store_splice (by rfl) 34 _ _ (by rfl) (w.heap.size + 1 + 1) 0 [.slice ab r.base.length kb,.int .i64 r.fl.c,.int .i64 r.fl.r,.slice al r.log.length kl,.slice am r.mks.length km] (by rfl) (by rfl) 34 [.slice none 0 0,.int .i64 0,.int .i64 0,.slice none 0 0,.slice none 0 0] k2 (info_rep.trans rfl) (by simp) ones.out ?_;intro w4 hg4 hB4 hO4)
  refine bodyPost_ret (rep_resultsAt Tryz.f51 6 7 rfl _ w4 (w.heap.size + 1 + 1) r.fl _ _ _ rfl (hg4.out.trans rfl)) rfl ?_
  exact ⟨rfl,hB4.out _ _ hb1.out (by omega)⟩
 ·have t2:(pool.length:Int) ≤ d.at_:=by omega
  clear hd;have d1:decide (d.at_ < 0) = false:=decide_eq_false t1;have d2:decide (d.at_ ≥ (pool.length:Int)) = true:=decide_eq_true t2;go_enter Tryz.func51,Tryz.ntmps51;go_wp2_with fail;rw [hW0.out];go_quiet (fail);obtain ⟨W1,hW1⟩:∃ W1,W0.drewN nq = W1:=⟨_,rfl⟩;rw [hW1]
  have r0:W1.cell? ⟨w.heap.size,0,none⟩ = some (.slice ab r.base.length kb):=by rw [← hW1];exact c0
  have r1:W1.cell? ⟨w.heap.size,1,none⟩ = some (.int .i64 r.fl.c):=by rw [← hW1];exact c1
  have r2:W1.cell? ⟨w.heap.size,2,none⟩ = some (.int .i64 r.fl.r):=by rw [← hW1];exact c2
  have r3:W1.cell? ⟨w.heap.size,3,none⟩ = some (.slice al r.log.length kl):=by rw [← hW1];exact c3
  have r4:W1.cell? ⟨w.heap.size,4,none⟩ = some (.slice am r.mks.length km):=by rw [← hW1];exact c4
  have k2:W1.heap[w.heap.size + 1 + 1]? = some (.cells #[.slice none 0 0,.int .i64 0,.int .i64 0,.slice none 0 0,.slice none 0 0] 34 (0,0)):=by rw [← hW1];exact g2
  have hb1:Hid (Below w.heap.size w W1):=hid (by rw [← hW1];exact ⟨hb0.out.os,hb0.out.tape,hb0.out.output,hb0.out.size,hb0.out.block⟩);clear hW1 c0 c1 c2 c3 c4 g2
  go_wp2_with (refine wpList_store_splice (by rfl) 34 _ _ (by rfl) (w.heap.size + 1 + 1) 0 [.slice ab r.base.length kb,.int .i64 r.fl.c,.int .i64 r.fl.r,.slice al r.log.length kl,.slice am r.mks.length km] (by rfl) (by rfl) 34 [.slice none 0 0,.int .i64 0,.int .i64 0,.slice none 0 0,.slice none 0 0] k2 (info_rep.trans rfl) (by simp) ones.out ?_;intro w4 hg4 hB4 hO4)
  refine bodyPost_ret (rep_resultsAt Tryz.f51 6 7 rfl _ w4 (w.heap.size + 1 + 1) r.fl _ _ _ rfl (hg4.out.trans rfl)) rfl ?_
  exact ⟨rfl,hB4.out _ _ hb1.out (by omega)⟩
end Pl
end
section
open Go.RowKit Go.Shelf
attribute [local go_sem] Fl.run_store_float
namespace Pl
open Mem Tp Tr Mo Fo Sn Og St
structure DvC (w wx:World) (x y:X3):Prop where
 c:wx.heap[w.heap.size]? = some (.cells #[y.1.b,.int .i64 y.2.fl.c,.int .i64 y.2.fl.r,y.1.l,y.1.m] 34 (0,0))
 z:wx.heap[w.heap.size + 1 + 1]? = some (.cells #[.slice none 0 0,.int .i64 0,.int .i64 0,.slice none 0 0,.slice none 0 0] 34 (0,0))
 k:BackX w wx x y
 f:∀ k,blocks y k → k ≠ w.heap.size ∧ k ≠ w.heap.size + 1 + 1
 b:Below w.heap.size w wx
 s:w.heap.size + 3 ≤ wx.heap.size
theorem dvC_mk {w W0 W1 w2:World} {x:X3} {vb vl vm:Value} {q:Rp} {o:Array Value} (h0:Below w.heap.size w W0) (hs:W0.heap.size = w.heap.size + 3) (h1:Below W0.heap.size W0 W1) (h2:Below W1.heap.size W1 w2) (hB:Back W1 w2 x.1.b x.1.l x.1.m vb vl vm q) (hlt:∀ k,blocks x k → k < w.heap.size)
  (g:w2.heap[w.heap.size]? = some (.cells o 34 (0,0))) (ho:o.size = 5) (z:w2.heap[w.heap.size + 1 + 1]? = some (.cells #[.slice none 0 0,.int .i64 0,.int .i64 0,.slice none 0 0,.slice none 0 0] 34 (0,0))) :
  DvC w (((((w2.setCell ⟨w.heap.size,0,none⟩ vb).setCell ⟨w.heap.size,1,none⟩ (.int .i64 q.fl.c)).setCell ⟨w.heap.size,2,none⟩ (.int .i64 q.fl.r)).setCell ⟨w.heap.size,3,none⟩ vl).setCell ⟨w.heap.size,4,none⟩ vm) x (⟨vb,vl,vm⟩,q):=by
 have t1:=h1.size;have t2:=h2.size;obtain ⟨W,hW⟩:∃ W,((((w2.setCell ⟨w.heap.size,0,none⟩ vb).setCell ⟨w.heap.size,1,none⟩ (.int .i64 q.fl.c)).setCell ⟨w.heap.size,2,none⟩ (.int .i64 q.fl.r)).setCell ⟨w.heap.size,3,none⟩ vl).setCell ⟨w.heap.size,4,none⟩ vm = W:=⟨_,rfl⟩
 have hz:W.heap.size = w2.heap.size:=by rw [← hW];simp [World.setCell]
 have hoth:∀ k,k ≠ w.heap.size → W.heap[k]? = w2.heap[k]?:=fun k hk => by
  rw [← hW];exact (setCell_heap_other (p:=⟨w.heap.size,4,none⟩) hk).trans ((setCell_heap_other (p:=⟨w.heap.size,3,none⟩) hk).trans ((setCell_heap_other (p:=⟨w.heap.size,2,none⟩) hk).trans ((setCell_heap_other (p:=⟨w.heap.size,1,none⟩) hk).trans (setCell_heap_other (p:=⟨w.heap.size,0,none⟩) hk))))
 have hc:W.heap[w.heap.size]? = some (.cells #[vb,.int .i64 q.fl.c,.int .i64 q.fl.r,vl,vm] 34 (0,0)):=by
  rw [← hW,set_at (set_at (set_at (set_at (set_at g 0 vb) 1 (.int .i64 q.fl.c)) 2 (.int .i64 q.fl.r)) 3 vl) 4 vm];obtain ⟨l⟩:=o
  rcases l with _ | ⟨a0,_ | ⟨a1,_ | ⟨a2,_ | ⟨a3,_ | ⟨a4,_ | ⟨a5,l⟩⟩⟩⟩⟩⟩ <;> simp at ho
  rfl
 have hbe:Below w.heap.size w W:=by
  rw [← hW];exact (((((h0.trans ((h1.trans (h2.mono t1)).mono (by omega))).setCell (p:=⟨w.heap.size,0,none⟩) (Nat.le_refl _) _).setCell (p:=⟨w.heap.size,1,none⟩) (Nat.le_refl _) _).setCell (p:=⟨w.heap.size,2,none⟩) (Nat.le_refl _) _).setCell (p:=⟨w.heap.size,3,none⟩) (Nat.le_refl _) _).setCell (p:=⟨w.heap.size,4,none⟩) (Nat.le_refl _) _
 have hX:=BackX.of (w:=w) (x:=x) hB (by omega)
 have hbx:∀ k,blocks (⟨vb,vl,vm⟩,q) k → k < w.heap.size ∨ W1.heap.size ≤ k:=by
  rintro k (e | e | e)
  ·rcases hB.nb _ e with h | h
   ·exact .inl (hlt _ (.inl h))
   ·exact .inr h.1
  ·rcases hB.nl _ e with h | h
   ·exact .inl (hlt _ (.inr (.inl h)))
   ·exact .inr h.1
  ·rcases hB.nm _ e with h | h
   ·exact .inl (hlt _ (.inr (.inr h)))
   ·exact .inr h.1
 have hne:∀ k,blocks (⟨vb,vl,vm⟩,q) k → k ≠ w.heap.size ∧ k ≠ w.heap.size + 1 + 1:=fun k hk => by rcases hbx k hk with h | h <;> omega
 rw [hW];exact ⟨hc,(hoth _ (by omega)).trans z,⟨hX.1.same (by omega) (fun k e => hoth k (hne k e).1),hX.2⟩,hne,hbe,by omega⟩
theorem deliver_any {base p b:Nat} {vp:Value} {xs:List X3} {pool:List Mv} (x:X3) (d:Dd) (k:Nat) (m:Mv) (w:World) (hP:PW w base p b vp xs pool) (hX:RepX w x) (hW:WfR x.2) (hm:pool[k]? = some m) (hd:d.at_ = (k:Int)) (hz:m.nm.size ≤ 100000) :
  Calls Tryz.prog 51 #[.pointer (some ⟨p,0,none⟩),rpV x,dedV d] w fun e w' => (∃ y:X3,e = .returned (.tuple #[rpV y,.int .i64 (addR x.2 m).2.2]) ∧ y.2 = (addR x.2 m).1 ∧ BackX w w' x y) ∧ Below w.heap.size w w':=by
 obtain ⟨kind,who,frm,at_,pa,ch,nm,rk⟩:=d;simp only at hd;subst hd;have hkn:=(List.getElem?_eq_some_iff.1 hm).1;obtain ⟨W0,hW0⟩:∃ W0,lay w [rpO x,dedO ⟨kind,who,frm,(k:Int),pa,ch,nm,rk⟩,rep0] = W0:=⟨_,rfl⟩
 have hb0:Below w.heap.size w W0:=by rw [← hW0];exact lay_below _ _
 have hs0:W0.heap.size = w.heap.size + 3:=by rw [← hW0];exact lay_size _ _
 have g0:W0.heap[w.heap.size]? = some (rpO x):=by rw [← hW0];exact lay_at _ w 0 _ rfl
 have g1:W0.heap[w.heap.size + 1]? = some (dedO ⟨kind,who,frm,(k:Int),pa,ch,nm,rk⟩):=by rw [← hW0];exact lay_at _ w 1 _ rfl
 have g2:W0.heap[w.heap.size + 1 + 1]? = some rep0:=by rw [← hW0];exact lay_at _ w 2 _ rfl
 have hP0:=hP.below hb0;have hX0:RepX W0 x:=RepW.below hX hb0;have HA:=hid (fun W (h:Below W0.heap.size W0 W) => Fo.add_any x.1.b x.1.l x.1.m x.2 m W (RepW.below hX0 h) hW hz)
 have hlt:∀ k,blocks x k → k < w.heap.size:=fun k hk => hX.lt hk
 have hsl:=own_sl hP0.own;obtain ⟨ap,kp,ep⟩:=hsl.len;subst ep;obtain ⟨bm,om,rfl⟩:=hsl.addr (by omega);have hlp:=(own_sl hP.own).at (by omega);obtain ⟨m0,m1,m2,m3,m4,m5⟩:=mov_at hsl rfl hm;obtain ⟨ab,kb,eb⟩:=hX.b.len;obtain ⟨al,kl,el⟩:=hX.l.len;obtain ⟨am,km,em⟩:=hX.m.len;obtain ⟨⟨vb,vl,vm⟩,r⟩:=x;simp only at eb el em;subst eb el em;simp only [lay,List.foldl_cons,List.foldl_nil,rpO,repO,dedO,rep0] at hW0 g0 g1 g2;have c0:=(show W0.cell? ⟨w.heap.size,0,none⟩ = some _ from cell_at g0 0)
 have c1:=(show W0.cell? ⟨w.heap.size,1,none⟩ = some _ from cell_at g0 1);have c2:=(show W0.cell? ⟨w.heap.size,2,none⟩ = some _ from cell_at g0 2);have c3:=(show W0.cell? ⟨w.heap.size,3,none⟩ = some _ from cell_at g0 3);have c4:=(show W0.cell? ⟨w.heap.size,4,none⟩ = some _ from cell_at g0 4);have e3:=(show W0.cell? ⟨w.heap.size + 1,3,none⟩ = some _ from cell_at g1 3);have q1:=(show W0.cell? ⟨p,1,none⟩ = some (.slice (some ⟨bm,om,none⟩) pool.length kp) from cell_at hP0.hp 1);have d1:decide ((k:Int) < 0) = false:=decide_eq_false (by omega)
 have d2:decide ((k:Int) ≥ (pool.length:Int)) = false:=decide_eq_false (by omega)
 have d3:(0:Int) ≤ (k:Int) ∧ (k:Int) < (pool.length:Int):=by omega
 replace hb0:=hid hb0;replace hW0:=hid hW0;replace hm:=hid hm;clear hP hP0 hX hX0 g1 hsl;unfold rpV repV dedV;go_enter Tryz.func51,Tryz.ntmps51;go_wp2_with fail;rw [hW0.out];go_quiet (fail);obtain ⟨W1,hW1⟩:∃ W1,W0.drewN nq = W1:=⟨_,rfl⟩;rw [hW1]
 have r0:W1.cell? ⟨w.heap.size,0,none⟩ = some (.slice ab r.base.length kb):=by rw [← hW1];exact c0
 have r1:W1.cell? ⟨w.heap.size,1,none⟩ = some (.int .i64 r.fl.c):=by rw [← hW1];exact c1
 have r2:W1.cell? ⟨w.heap.size,2,none⟩ = some (.int .i64 r.fl.r):=by rw [← hW1];exact c2
 have r3:W1.cell? ⟨w.heap.size,3,none⟩ = some (.slice al r.log.length kl):=by rw [← hW1];exact c3
 have r4:W1.cell? ⟨w.heap.size,4,none⟩ = some (.slice am r.mks.length km):=by rw [← hW1];exact c4
 have r5:W1.cell? ⟨w.heap.size + 1,3,none⟩ = some (.int .i64 (k:Int)):=by rw [← hW1];exact e3
 have r6:W1.cell? ⟨p,1,none⟩ = some (.slice (some ⟨bm,om,none⟩) pool.length kp):=by rw [← hW1];exact q1
 have n0:W1.cell? ⟨bm,om + k * 6,none⟩ = some (.int .i64 m.t.c):=by rw [← hW1];exact m0
 have n1:W1.cell? ⟨bm,om + k * 6 + 1,none⟩ = some (.int .i64 m.t.r):=by rw [← hW1];exact m1
 have n2:W1.cell? ⟨bm,om + k * 6 + 2,none⟩ = some (.int .i64 m.pa):=by rw [← hW1];exact m2
 have n3:W1.cell? ⟨bm,om + k * 6 + 3,none⟩ = some (.int .i64 m.ch):=by rw [← hW1];exact m3
 have n4:W1.cell? ⟨bm,om + k * 6 + 4,none⟩ = some (.string m.nm):=by rw [← hW1];exact m4
 have n5:W1.cell? ⟨bm,om + k * 6 + 5,none⟩ = some (.float .f64 m.rk):=by rw [← hW1];exact m5
 have k0:W1.heap[w.heap.size]? = some (.cells #[.slice ab r.base.length kb,.int .i64 r.fl.c,.int .i64 r.fl.r,.slice al r.log.length kl,.slice am r.mks.length km] 34 (0,0)):=by rw [← hW1];exact g0
 have k2:W1.heap[w.heap.size + 1 + 1]? = some (.cells #[.slice none 0 0,.int .i64 0,.int .i64 0,.slice none 0 0,.slice none 0 0] 34 (0,0)):=by rw [← hW1];exact g2
 have hb1:Hid (Below W0.heap.size W0 W1):=hid (by rw [← hW1];exact ⟨rfl,rfl,rfl,Nat.le_refl _,fun _ _ => rfl⟩);replace k0:=hid k0;replace k2:=hid k2;clear hW1 c0 c1 c2 c3 c4 g0 g2 e3 q1 m0 m1 m2 m3 m4 m5 d1 d2;obtain ⟨q,hq⟩:∃ q,addR r m = q:=⟨_,rfl⟩;simp only [hq] at HA;replace hq:=hid hq;replace hlt:=hid hlt
 have K0:=hid (fun (W W':World) (h:Below W.heap.size W W') (e:W.heap[w.heap.size]? = some (.cells #[.slice ab r.base.length kb,.int .i64 r.fl.c,.int .i64 r.fl.r,.slice al r.log.length kl,.slice am r.mks.length km] 34 (0,0))) => below_at h e (lt_of_block e));have s1:=hb1.out.size
 go_upto_region 3 with fail
 go_cut [9] (fun v9 wx => v9 = .int .i64 q.2.2 ∧ ∃ y:X3,y.2 = q.1 ∧ Hid (DvC w wx (⟨.slice ab r.base.length kb,.slice al r.log.length kl,.slice am r.mks.length km⟩,r) y))
 case first =>
  go_region_with ((go_at_call 18;(refine (HA.out _ (by first | exact hb1.out.drew | exact hb1.out)).mono ?_);rintro e w2 ⟨⟨vb',vl',vm',rfl,hB⟩,b2⟩;unfold repV;obtain ⟨ab',kb',eb⟩:=hB.r.b.len;subst eb;obtain ⟨al',kl',el⟩:=hB.r.l.len;subst el;obtain ⟨am',km',em⟩:=hB.r.m.len;subst em;have kk0:=K0.out _ _ b2 k0.out;have f0:=free_at kk0 0;have f1:=free_at kk0 1;have f2:=free_at kk0 2;have f3:=free_at kk0 3;have f4:=free_at kk0 4;have u0:=(show w2.cell? ⟨w.heap.size,0,none⟩ = some (.slice ab r.base.length kb) from cell_at kk0 0);have u1:=(show w2.cell? ⟨w.heap.size,1,none⟩ = some (.int .i64 r.fl.c) from cell_at kk0 1);have u2:=(show w2.cell? ⟨w.heap.size,2,none⟩ = some (.int .i64 r.fl.r) from cell_at kk0 2);have u3:=(show w2.cell? ⟨w.heap.size,3,none⟩ = some (.slice al r.log.length kl) from cell_at kk0 3);have u4:=(show w2.cell? ⟨w.heap.size,4,none⟩ = some (.slice am r.mks.length km) from cell_at kk0 4);replace kk0:=hid kk0;replace hB:=hid hB;replace b2:=hid b2))
  all_goals
  go_wp2_with fail
  go_meet
  exact ⟨rfl,_,rfl,hid (dvC_mk (W1:=W1.drew) hb0.out hs0 hb1.out.drew b2.out hB.out hlt.out kk0.out rfl (below_at (w:=W1.drew) b2.out k2.out (lt_of_block (w:=W1) k2.out)))⟩
 case rest =>
  obtain ⟨h9,y,hy,hC⟩:=hcut;subst h9;obtain ⟨⟨yb,yl,ym⟩,yr⟩:=y;simp only at hy;subst hy;obtain ⟨ab',kb',eb⟩:=hC.out.k.1.b.len;simp only at eb;subst eb;obtain ⟨al',kl',el⟩:=hC.out.k.1.l.len;simp only at el;subst el;obtain ⟨am',km',em⟩:=hC.out.k.1.m.len;simp only at em;subst em;have k9:=hC.out.c;have z9:=hC.out.z;simp only at k9;have v0:=(show wc.cell? ⟨w.heap.size,0,none⟩ = some _ from cell_at k9 0);have v1:=(show wc.cell? ⟨w.heap.size,1,none⟩ = some _ from cell_at k9 1);have v2:=(show wc.cell? ⟨w.heap.size,2,none⟩ = some _ from cell_at k9 2)
  have v3:=(show wc.cell? ⟨w.heap.size,3,none⟩ = some _ from cell_at k9 3);have v4:=(show wc.cell? ⟨w.heap.size,4,none⟩ = some _ from cell_at k9 4)
  have ones:Hid (∀ v ∈ [Value.slice ab' q.1.base.length kb',.int .i64 q.1.fl.c,.int .i64 q.1.fl.r,.slice al' q.1.log.length kl',.slice am' q.1.mks.length km'],v.oneCell' = true):=hid (by
   intro v hv;simp only [List.mem_cons,List.not_mem_nil,or_false] at hv
   rcases hv with rfl | rfl | rfl | rfl | rfl <;> rfl)
  clear r0 r1 r2 r3 r4 r5 r6 n0 n1 n2 n3 n4 n5 k0 k2 HA k9
  go_wp2_with (refine wpList_store_splice (by rfl) 34 _ _ (by rfl) (w.heap.size + 1 + 1) 0 [.slice ab' q.1.base.length kb',.int .i64 q.1.fl.c,.int .i64 q.1.fl.r,.slice al' q.1.log.length kl',.slice am' q.1.mks.length km'] (by rfl) (by rfl) 34 [.slice none 0 0,.int .i64 0,.int .i64 0,.slice none 0 0,.slice none 0 0] z9 (info_rep.trans rfl) (by simp) ones.out ?_;intro w4 hg4 hB4 hO4)
  have hs9:wc.heap.size ≤ w4.heap.size:=(hB4.out 0 _ (Below.refl 0 _) (Nat.zero_le _)).size;refine bodyPost_ret (rep_resultsAt Tryz.f51 6 7 rfl _ w4 (w.heap.size + 1 + 1) q.1.fl _ _ _ rfl (hg4.out.trans rfl)) rfl ?_
  exact ⟨⟨(⟨.slice ab' q.1.base.length kb',.slice al' q.1.log.length kl',.slice am' q.1.mks.length km'⟩,q.1),by rw [hq.out];rfl,by rw [hq.out],hC.out.k.1.same hs9 (fun k e => hO4.out k (hC.out.f k e).2),hC.out.k.2⟩,hB4.out _ _ hC.out.b (by omega)⟩
end Pl
end
end Go.Proofs.YtnlijlknjhkoaaaGreat
