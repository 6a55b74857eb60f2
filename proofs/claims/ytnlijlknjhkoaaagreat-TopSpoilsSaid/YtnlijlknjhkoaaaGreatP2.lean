/-
  PART 2 of what law TopSettles leans on: plain lemmas and walks, of which each says its own condition.
-/
import Derived.Test.YtnlijlknjhkoaaaGreatP1
open Go.Lib (hid)
set_option maxRecDepth 100000
set_option maxHeartbeats 16000000
namespace Go.Proofs.YtnlijlknjhkoaaaGreat
section
open Go.RowKit
namespace Mo
open Mem Tp
attribute [local go_sem] Fl.run_store_float
theorem alloc_new_at {w:World} {n:Nat} (x:Obj) (h:w.heap.size = n):(w.alloc x).heap[n]? = some x:=by subst h;exact alloc_new w x
theorem ahead_bef (a b:Tm):Fl.ahead a.c a.r b.c b.r = bef a b:=by
 unfold Fl.ahead bef Fl.either
 rcases Fl.cmpI_cases a.c b.c with ⟨h,h'⟩ | ⟨h,h'⟩ | ⟨h,h'⟩ <;> rcases Fl.cmpI_cases a.r b.r with ⟨k,k'⟩ | ⟨k,k'⟩ | ⟨k,k'⟩ <;> rw [h,k] <;> rw [decide_eq_decide] <;> simp <;> omega
theorem row_any (m:Mv) (w:World) :
  Calls Tryz.prog 46 #[movV m] w fun e w' => e = .returned (rowV (rowOf m)) ∧ Below w.heap.size w w':=by
 obtain ⟨i0,hinf,hz0,hz1,hz2⟩:=info_parts infoRow
 have hszr:(Tryz.prog.info? 96).map (·.size) = some (rowC (rowOf m)).length:=by rw [hinf];simp [hz1,rowC_len]
 have hb:=hid (fun x y => ((Below.refl w.heap.size w).alloc (Nat.le_refl _) x).alloc (by simp) y)
 have hg:∀ x y,((w.alloc x).alloc y).heap[w.heap.size + 1]? = some y:=fun x y => alloc_new_at _ (by simp)
 replace hg:=hid hg;unfold movV rowV;go_enter Tryz.func46,Tryz.ntmps46
 go_wp2_with (refine wpList_store_splice (by rfl) 96 _ _ (by rfl) (w.heap.size + 1) 0 (rowC (rowOf m)) (by rfl) (by rfl) 96 [.int .i64 0,.int .i64 0,.string ByteArray.empty,.float .f64 0] (hg.out _ _) hszr (by rw [rowC_len];simp) (rowC_one _) ?_;intro w4 hg4 hB4 hO4)
 replace hb:=hid (hB4.out _ _ (hb.out _ _) (by omega));have hc:=hg4.out;rw [show splice [Value.int .i64 0,.int .i64 0,.string ByteArray.empty,.float .f64 0] 0 (rowC (rowOf m)) = rowC (rowOf m) from rfl] at hc;clear hg4 hB4 hO4 hg;unfold rowOf at *;refine bodyPost_ret (v:=.agg (rowC (rowOf m)).toArray) (results_cell_row rfl _ _ (w.heap.size + 1) 96 (rowC (rowOf m)).toArray (0,0) _ rfl hc Tryz.underlying96 rfl (by rw [hszr];rfl)) rfl ?_
 exact ⟨rfl,hb.out⟩
def oneM (m:Mv):Bool:=decide (okT m.t) && Tr.oneR (rowOf m)
theorem is_any (t:Tm) (m:Mv) (w:World) :
  Calls Tryz.prog 56 #[tmV t,movV m] w fun e w' => e = .returned (.bool (m.t == t)) ∧ Below w.heap.size w w':=by
 obtain ⟨tc,tr⟩:=t;obtain ⟨⟨mc,mr⟩,mp,mch,mn,mk⟩:=m
 have hq:((⟨mc,mr⟩:Tm) == ⟨tc,tr⟩) = (decide (mc = tc) && decide (mr = tr)):=by rw [Bool.eq_iff_iff];simp
 unfold tmV movV;simp only;rw [hq];clear hq
 have hb:=fun x => (((Below.refl w.heap.size w).alloc (Nat.le_refl _) (.cells #[.int .i64 tc,.int .i64 tr] 113)).alloc (by simp) x)
 replace hb:=hid hb
 by_cases h1:mc = tc
 ·by_cases h2:mr = tr
  ·rw [decide_eq_true h1,decide_eq_true h2]
   subst h1 h2;go_enter Tryz.func56,Tryz.ntmps56;go_wp2_with fail;go_ret;exact ⟨rfl,hb.out _⟩
  ·rw [decide_eq_false h2,Bool.and_false]
   go_enter Tryz.func56,Tryz.ntmps56;go_wp2_with fail;go_ret;exact ⟨rfl,hb.out _⟩
 ·rw [decide_eq_false h1,Bool.false_and]
  go_enter Tryz.func56,Tryz.ntmps56;go_wp2_with fail;go_ret;exact ⟨rfl,hb.out _⟩
theorem before_any (t:Tm) (m:Mv) (w:World) :
  Calls Tryz.prog 57 #[tmV t,movV m] w fun e w' => e = .returned (.bool (bef t m.t)) ∧ Below w.heap.size w w':=by
 have HB:=hid (fun W => Fl.before_any t.c t.r m.t.c m.t.r W);rw [ahead_bef] at HB;unfold tmV movV;generalize bef t m.t = q at *;go_enter Tryz.func57,Tryz.ntmps57;go_wp2_with fail;refine (HB.out _).mono ?_
 rintro e w2 ⟨rfl,hb2⟩;replace hb2:=hid ((((Below.refl w.heap.size w).alloc (Nat.le_refl _) _).alloc (by simp) _).trans (hb2.mono (by simp;omega)));go_wp2_with fail;go_ret;exact ⟨rfl,hb2.out⟩
theorem one_any (m:Mv) (w:World) (hs:m.nm.size ≤ 100000) :
  Calls Tryz.prog 19 #[movV m] w fun e w' => e = .returned (.bool (oneM m)) ∧ Below w.heap.size w w':=by
 have HR:=hid (fun W => row_any m W);have HO:=hid (fun W => Tr.one_any (rowOf m) W hs);obtain ⟨x,hx⟩:∃ x,x = rowOf m:=⟨_,rfl⟩;unfold oneM;rw [← hx] at HR HO ⊢;clear hx;obtain ⟨⟨tc,tr⟩,mp,mch,mn,mk⟩:=m;simp only [okT] at HR HO hs ⊢;unfold movV at HR ⊢;simp only at HR ⊢
 have hb:=fun y => (((Below.refl w.heap.size w).alloc (Nat.le_refl _) (.cells #[.int .i64 tc,.int .i64 tr,.int .i64 mp,.int .i64 mch,.string mn,.float .f64 mk] 49)).alloc (by simp) y)
 replace hb:=hid hb;go_enter Tryz.func19,Tryz.ntmps19
 by_cases h1:1 ≤ tc
 ·by_cases h2:tc ≤ 4611686018427387903
  ·by_cases h3:1 ≤ tr
   ·by_cases h4:tr ≤ 255
    ·have d1:=decide_eq_true h1
     have d2:=decide_eq_true h2;have d3:=decide_eq_true h3;have d4:=decide_eq_true h4;have hr:Hid ((decide (1 ≤ tc ∧ tc ≤ 4611686018427387903 ∧ 1 ≤ tr ∧ tr ≤ 255) && Tr.oneR x) = Tr.oneR x):=hid (by rw [decide_eq_true ⟨h1,h2,h3,h4⟩,Bool.true_and]);rw [hr.out];go_wp2_with fail;refine (HR.out _).mono ?_
     rintro e w2 ⟨rfl,hb2⟩;have hb3:=hid ((hb.out _).trans (hb2.mono (by simp;omega)));have hs3:=hb2.size;simp at hs3;clear hb2;go_wp2_with fail;refine (HO.out _).mono ?_
     rintro e w4 ⟨rfl,hb4⟩;replace hb3:=hid (hb3.out.trans (hb4.mono (by omega)));clear hb4;go_wp2_with fail;go_ret;exact ⟨rfl,hb3.out⟩
    ·have d1:=decide_eq_true h1
     have d2:=decide_eq_true h2;have d3:=decide_eq_true h3;have d4:=decide_eq_false h4
     have hr:(decide (1 ≤ tc ∧ tc ≤ 4611686018427387903 ∧ 1 ≤ tr ∧ tr ≤ 255) && Tr.oneR x) = false:=by rw [decide_eq_false (by omega),Bool.false_and]
     rw [hr];go_wp2_with fail;go_ret;exact ⟨rfl,hb.out _⟩
   ·have d1:=decide_eq_true h1
    have d2:=decide_eq_true h2;have d3:=decide_eq_false h3
    have hr:(decide (1 ≤ tc ∧ tc ≤ 4611686018427387903 ∧ 1 ≤ tr ∧ tr ≤ 255) && Tr.oneR x) = false:=by rw [decide_eq_false (by omega),Bool.false_and]
    rw [hr];go_wp2_with fail;go_ret;exact ⟨rfl,hb.out _⟩
  ·have d1:=decide_eq_true h1
   have d2:=decide_eq_false h2
   have hr:(decide (1 ≤ tc ∧ tc ≤ 4611686018427387903 ∧ 1 ≤ tr ∧ tr ≤ 255) && Tr.oneR x) = false:=by rw [decide_eq_false (by omega),Bool.false_and]
   rw [hr];go_wp2_with fail;go_ret;exact ⟨rfl,hb.out _⟩
 ·have d1:=decide_eq_false h1
  have hr:(decide (1 ≤ tc ∧ tc ≤ 4611686018427387903 ∧ 1 ≤ tr ∧ tr ≤ 255) && Tr.oneR x) = false:=by rw [decide_eq_false (by omega),Bool.false_and]
  rw [hr];go_wp2_with fail;go_ret;exact ⟨rfl,hb.out _⟩
theorem seek_any (f:Nat) (v:Value) (t:Tm) (l:List Mv) (p:Mv → Bool) (w:World) (hS:Mem.Mvs w v l) (hl:l.length ≤ 5000)
  (E:∀ (x:Mv) w1,(callFunc f #[tmV t,movV x]).run Tryz.prog w1 = .ok (.enter f #[tmV t,movV x]) w1)
  (F:∀ (x:Mv) w1,Calls Tryz.prog f #[tmV t,movV x] w1 fun e w' => e = .returned (.bool (p x)) ∧ Below w1.heap.size w1 w') :
  Calls Tryz.prog 55 #[v,tmV t,.func (.func f) #[] #[]] w fun e w' => e = .returned (.int .i64 (l.findIdx p:Nat)) ∧ Below w.heap.size w w':=by
 obtain ⟨a,c,rfl⟩:=hS.len;have HS:=hid hS;have HF:=hid F;have HE:Hid (∀ (x:Mv) w1,(callFunc f #[tmV t,movV x]).run Tryz.prog w1 = .ok (.enter f #[tmV t,movV x]) w1):=hid E;clear hS F E;unfold tmV;go_enter Tryz.func55,Tryz.ntmps55;go_wp2_with fail;have hb0:=hid ((Below.refl w.heap.size w).alloc (Nat.le_refl _) (.cells #[.int .i64 t.c,.int .i64 t.r] 113));have hg0:=hid (alloc_new w (.cells #[.int .i64 t.c,.int .i64 t.r] 113));generalize w.alloc (.cells #[.int .i64 t.c,.int .i64 t.r] 113) = W0 at *
 go_loopw [11] (fun i wr => ∃ k:Nat,i = .int .i64 k ∧ k ≤ l.length ∧ Hid (∀ x ∈ l.take k,p x = false) ∧ Hid (Below w.heap.size w wr) ∧ Hid (wr.heap[w.heap.size]? = some (.cells #[.int .i64 t.c,.int .i64 t.r] 113 (0,0)))) (fun i _ => l.length - (intOf i).toNat)
 case atStart => exact ⟨0,rfl,by omega,hid (fun x h => by simp at h),hb0,hg0⟩
 case round =>
  clear hb0 hg0;obtain ⟨k,rfl,hk,hno,hb,hg⟩:=hrel
  by_cases hlt:k < l.length
  ·have hlt':(k:Int) < (l.length:Nat):=by omega
   obtain ⟨x,hx⟩:=some_at hlt;obtain ⟨b,off,rfl⟩:=HS.out.addr (by omega);have hS2:=HS.out.below hb.out;obtain ⟨q0,q1,q2,q3,q4,q5⟩:=mov_at hS2 rfl hx;have hwl:=lt_of_block hg.out;have hx':=hid hx;have hF:=hid (fun w1 => HF.out x w1)
   have he:=fun w1 => HE.out x w1
   unfold movV tmV at he
   have hgl:∀ y,(wr.alloc y).heap[w.heap.size]? = some (.cells #[.int .i64 t.c,.int .i64 t.r] 113 (0,0)):=fun y => alloc_at y hg.out
   have c0:=fun y => cell_at (hgl y) 0
   have c1:=fun y => cell_at (hgl y) 1
   simp only [List.getElem?_toArray,List.getElem?_cons_zero,List.getElem?_cons_succ] at c0 c1;have hbx:=hid (hb.out.alloc (Nat.le_of_lt hwl) (.cells #[.int .i64 x.t.c,.int .i64 x.t.r,.int .i64 x.pa,.int .i64 x.ch,.string x.nm,.float .f64 x.rk] 49));replace hgl:=hid hgl;clear hS2 hx;go_wp2_with fail;refine (hF.out _).mono ?_
   rintro e w2 ⟨rfl,hb2⟩;have hb3:=hid (hbx.out.trans (hb2.mono hbx.out.size));have hg2:=hid (below_at hb2 (hgl.out _) (by simp;omega));clear hb2
   by_cases hp:p x = true
   ·have hr:Hid (l.findIdx p = k):=hid (idx_hit hx'.out hno.out hp)
    rw [hp];clear hp;go_wp2_with fail;go_ret;exact ⟨by rw [hr.out];rfl,hb3.out⟩
   ·have hp':p x = false:=by simpa using hp
    have hno2:Hid (∀ x ∈ l.take (k + 1),p x = false):=hid (fun y hy => by
     rw [take_snoc hx'.out,List.mem_append,List.mem_singleton] at hy
     rcases hy with hy | rfl
     ·exact hno.out y hy
     ·exact hp')
    rw [hp'];clear hp hp';go_wp2_with fail
    go_roundw
    case rel => exact ⟨k + 1,by go_num,by omega,hno2,hb3,hg2⟩
    case measure => simp [intOf];omega
  ·obtain rfl:k = l.length:=by omega
   have hge:¬ ((l.length:Int) < (l.length:Nat)):=by omega
   have hr:Hid (l.findIdx p = l.length):=hid (by
    have h9:=hno.out;rw [List.take_length] at h9
    exact idx_none h9)
   go_wp2_with fail;go_ret;exact ⟨by rw [hr.out];rfl,hb.out⟩
end Mo
end
section
open Go.RowKit
attribute [local go_sem] Fl.run_store_float
namespace Fd
open Mem Tp Tr
def OkT (l:List Rw):Prop:=(l.map (·.ch)).Nodup ∧ ∀ r ∈ l,InR r.ch ∧ InR r.pa
theorem barred_any (v:Value) (l:List Rw) (m:Mv) (w:World) (hS:Mem.Rows w v l) (hl:l.length ≤ 4000) (hk:OkT l) (hp:InR m.pa) :
  Calls Tryz.prog 123 #[v,movV m] w fun e w' => e = .returned (.bool (barred l m)) ∧ Below w.heap.size w w':=by
 have hb0:=(Below.refl w.heap.size w).alloc (Nat.le_refl _) (.cells #[.int .i64 m.t.c,.int .i64 m.t.r,.int .i64 m.pa,.int .i64 m.ch,.string m.nm,.float .f64 m.rk] 49);have HA:=hid (above_any v l m.ch m.pa _ (hS.below hb0) hl hk.1 hk.2 hp);replace hb0:=hid hb0;obtain ⟨q,hq⟩:∃ q,q = barred l m:=⟨_,rfl⟩;rw [← hq];replace hq:=hid hq;clear hS;unfold movV;go_enter Tryz.func123,Tryz.ntmps123
 by_cases h1:m.ch = 0
 ·have hr:Hid (q = true):=hid (by rw [hq.out];unfold barred;rw [show (m.ch == 0) = true by simpa using h1];rfl)
  have d1:(m.ch == 0) = true:=by simpa using h1
  go_wp2_with fail;go_ret;exact ⟨by rw [hr.out];rfl,(Below.refl w.heap.size w).alloc (Nat.le_refl _) _⟩
 ·have d1:(m.ch == 0) = false:=by simpa using h1
  by_cases h2:m.ch = m.pa
  ·have d2:(m.ch == m.pa) = true:=by simpa using h2
   have hr:Hid (q = true):=hid (by rw [hq.out];unfold barred;rw [d2,Bool.or_true,Bool.true_or]);go_wp2_with fail;go_ret;exact ⟨by rw [hr.out];rfl,(Below.refl w.heap.size w).alloc (Nat.le_refl _) _⟩
  ·have d2:(m.ch == m.pa) = false:=by simpa using h2
   have hr:Hid (q = above l m.ch m.pa):=hid (by rw [hq.out];unfold barred;rw [d1,d2,Bool.false_or,Bool.false_or]);go_wp2_with fail;refine HA.out.mono ?_
   rintro e w2 ⟨rfl,hb2⟩;have hb3:=hid (hb0.out.trans (hb2.mono (by simp)));clear hb2 HA;go_wp2_with fail;go_ret;exact ⟨by rw [hr.out];rfl,hb3.out⟩
theorem do_any (v:Value) (l:List Rw) (m:Mv) (w:World) (hS:Mem.Rows w v l) (hl:l.length ≤ 4000) (hk:OkT l) (hp:InR m.pa) :
  Calls Tryz.prog 79 #[v,movV m] w fun e w' => (∃ v',e = .returned (.tuple #[v',.bool (!barred l m)]) ∧ Mem.Rows w' v' (doM l m) ∧ Near2 w w' v v') ∧ Below w.heap.size w w':=by
 have hb0:=(Below.refl w.heap.size w).alloc (Nat.le_refl _) (.cells #[.int .i64 m.t.c,.int .i64 m.t.r,.int .i64 m.pa,.int .i64 m.ch,.string m.nm,.float .f64 m.rk] 49);have hg0:=alloc_new w (.cells #[.int .i64 m.t.c,.int .i64 m.t.r,.int .i64 m.pa,.int .i64 m.ch,.string m.nm,.float .f64 m.rk] 49);have hS0:=hS.below hb0;have HB:=hid (barred_any v l m _ hS0 hl hk hp);have HR:=hid (fun W => Mo.row_any m W);have HS:=hid (fun (W:World) (h:Mem.Rows W v l) => set_any v l (rowOf m) W h hl);replace hb0:=hid hb0;replace hg0:=hid hg0;replace hS0:=hid hS0;clear hS
 unfold movV at HB HR ⊢;obtain ⟨q,hq⟩:∃ q,q = barred l m:=⟨_,rfl⟩;rw [← hq] at HB ⊢;have hd:Hid (doM l m = if q = true then l else setR l (rowOf m)):=hid (by rw [hq];rfl);clear hq;unfold rowV at HR HS;go_enter Tryz.func79,Tryz.ntmps79;go_wp2_with fail;refine HB.out.mono ?_
 rintro e w2 ⟨rfl,hb2⟩;have hb3:=hid (hb0.out.trans (hb2.mono (by simp)));have hS2:=hid (hS0.out.below hb2);have hg2:=hid (below_at hb2 hg0.out (by simp))
 have hs2:w.heap.size + 1 ≤ w2.heap.size:=by have:=hb2.size;simpa using this
 clear hb2 hS0 hb0 hg0 HB
 cases q with
 | true =>
  go_wp2_with fail;go_ret2;exact ⟨⟨_,rfl,by rw [hd.out];simp only [if_true];exact hS2.out,fun k e => .inl e⟩,hb3.out⟩
 | false =>
  have c0:w2.cell? ⟨w.heap.size,0,none⟩ = some (.int .i64 m.t.c):=cell_at hg2.out 0;have c1:w2.cell? ⟨w.heap.size,1,none⟩ = some (.int .i64 m.t.r):=cell_at hg2.out 1;have c2:w2.cell? ⟨w.heap.size,2,none⟩ = some (.int .i64 m.pa):=cell_at hg2.out 2;have c3:w2.cell? ⟨w.heap.size,3,none⟩ = some (.int .i64 m.ch):=cell_at hg2.out 3;have c4:w2.cell? ⟨w.heap.size,4,none⟩ = some (.string m.nm):=cell_at hg2.out 4;have c5:w2.cell? ⟨w.heap.size,5,none⟩ = some (.float .f64 m.rk):=cell_at hg2.out 5;go_wp2_with fail;refine (HR.out _).mono ?_
  rintro e w4 ⟨rfl,hb4⟩;have hS4:=hid (hS2.out.below hb4);have hs4:=hb4.size;have hb5:=hid (hb3.out.trans (hb4.mono (by omega)));clear hb4 c0 c1 c2 c3 c4 c5;go_wp2_with fail;refine (HS.out _ hS4.out).mono ?_
  rintro e w6 ⟨v6,rfl,hO6,hb6⟩;have hb7:=hid (hb5.out.trans (hb6.mono (by omega)));have hO7:Hid (Mem.Rows w6 v6 (doM l m)):=hid (by rw [hd.out,if_neg (by decide)];exact own_sl hO6);have hnr:Hid (∀ k,v6.ownBlock = some k → w.heap.size ≤ k ∧ k < w6.heap.size):=hid (fun k e => by have:=hO6.lt k e;exact ⟨by omega,this.2⟩);clear hb6 hO6;go_wp2_with fail;go_ret2;exact ⟨⟨_,rfl,hO7.out,fun k e => .inr (hnr.out k e)⟩,hb7.out⟩
end Fd
end
section
namespace Fd
open Tp Tr Mem
theorem map_set_same {l:List Rw} {k:Nat} {r:Rw} (h:(l.map (·.ch))[k]? = some r.ch):(l.set k r).map (·.ch) = l.map (·.ch):=by
 rw [List.map_set];obtain ⟨h1,h2⟩:=List.getElem?_eq_some_iff.1 h;rw [← h2];exact List.set_getElem_self h1
theorem okT_set {l:List Rw} {r:Rw} (h:OkT l) (h1:InR r.ch) (h2:InR r.pa):OkT (setR l r):=by
 unfold setR
 split
 ·rename_i hf
  have hx:=List.findIdx_getElem (w:=hf);refine ⟨?_,fun x hm => ?_⟩
  ·rw [map_set_same]
   ·exact h.1
   ·rw [List.getElem?_map,List.getElem?_eq_getElem hf,Option.map_some]
    exact congrArg some (by simpa using hx)
  ·rcases List.mem_or_eq_of_mem_set hm with hm | rfl
   ·exact h.2 x hm
   ·exact ⟨h1,h2⟩
 ·rename_i hf
  have hno:r.ch ∉ l.map (·.ch):=fun hm => by
   obtain ⟨x,hx,e⟩:=List.mem_map.1 hm;exact hf (List.findIdx_lt_length.2 ⟨x,hx,by simpa using e⟩)
  refine ⟨?_,fun x hm => ?_⟩
  ·generalize l.findIdx (fun x => decide (r.ch < x.ch)) = k
   have hp:((l.take k ++ r :: l.drop k).map (·.ch)).Perm (r.ch :: l.map (·.ch)):=by
    rw [List.map_append,List.map_cons];refine List.perm_middle.trans ?_
    rw [← List.map_append,List.take_append_drop]
   exact hp.nodup_iff.2 (List.nodup_cons.2 ⟨hno,h.1⟩)
  ·rw [List.mem_append,List.mem_cons] at hm
   rcases hm with hm | rfl | hm
   ·exact h.2 x (List.mem_of_mem_take hm)
   ·exact ⟨h1,h2⟩
   ·exact h.2 x (List.mem_of_mem_drop hm)
theorem okT_do {l:List Rw} {m:Mv} (h:OkT l) (h1:InR m.ch) (h2:InR m.pa):OkT (doM l m):=by
 unfold doM
 split
 ·exact h
 ·exact okT_set h h1 h2
theorem len_do (l:List Rw) (m:Mv):(doM l m).length ≤ l.length + 1:=by
 unfold doM setR
 split
 ·omega
 ·split
  ·rw [List.length_set];omega
  ·rw [List.length_append,List.length_cons,List.length_take,List.length_drop];omega
end Fd
end
section
open Go.RowKit
attribute [local go_sem] Fl.run_store_float
namespace Fd
open Mem Tp Tr
theorem fold_snoc (l:List Rw) (ms:List Mv) (m:Mv):foldM l (ms ++ [m]) = doM (foldM l ms) m:=by unfold foldM;rw [List.foldl_append];rfl
theorem all_any (v u:Value) (l:List Rw) (ms:List Mv) (w:World) (hS:Mem.Rows w v l) (hM:Mem.Mvs w u ms) (hl:l.length ≤ 2000) (hm:ms.length ≤ 2000) (hk:OkT l) (hr:∀ m ∈ ms,InR m.ch ∧ InR m.pa) :
  Calls Tryz.prog 40 #[v,u] w fun e w' => (∃ v',e = .returned v' ∧ Mem.Rows w' v' (foldM l ms) ∧ Near2 w w' v v') ∧ Below w.heap.size w w':=by
 obtain ⟨a,c,rfl⟩:=hM.len;have HM:=hid hM;have HR:=hid hr;have HD:=hid (fun (v:Value) (l:List Rw) (m:Mv) (W:World) h1 h2 h3 h4 => do_any v l m W h1 h2 h3 h4);have hS0:=hid hS;have hk0:=hid hk;clear hS hM hr hk;unfold movV at HD;go_enter Tryz.func40,Tryz.ntmps40;go_wp2_with fail
 go_loopw [0,9] (fun t i wr => ∃ (k:Nat) (acc:List Rw),i = .int .i64 k ∧ k ≤ ms.length ∧ Hid (acc = foldM l (ms.take k)) ∧ acc.length ≤ 2000 + k ∧ Hid (OkT acc) ∧ Hid (Mem.Rows wr t acc) ∧ Hid (Near2 w wr v t) ∧ Hid (Below w.heap.size w wr)) (fun _ i _ => ms.length - (intOf i).toNat)
 case atStart => exact ⟨0,l,rfl,by omega,hid rfl,by omega,hk0,hS0,hid (fun k e => .inl e),hid (Below.refl _ _)⟩
 case round =>
  clear hS0 hk0;obtain ⟨k,acc,rfl,hkl,hacc,hal,hok,hRw,hnr,hb⟩:=hrel
  by_cases hlt:k < ms.length
  ·have hlt':(k:Int) < (ms.length:Nat):=by omega
   obtain ⟨x,hx⟩:=some_at hlt;obtain ⟨b,off,rfl⟩:=HM.out.addr (by omega);obtain ⟨q0,q1,q2,q3,q4,q5⟩:=mov_at (HM.out.below hb.out) rfl hx;obtain ⟨r1,r2⟩:=HR.out x (List.mem_of_getElem? hx);have hac2:Hid (doM acc x = foldM l (ms.take (k + 1))):=hid (by rw [take_snoc hx,fold_snoc,← hacc.out]);have hok2:=hid (okT_do hok.out r1 r2);have hln:=len_do acc x;have hsz:=hb.out.size;have hbx:=hid (hb.out.alloc hsz (.cells #[.int .i64 x.t.c,.int .i64 x.t.r,.int .i64 x.pa,.int .i64 x.ch,.string x.nm,.float .f64 x.rk] 49))
   have hRx:=hid (hRw.out.below ((Below.refl wr.heap.size wr).alloc (Nat.le_refl _) (.cells #[.int .i64 x.t.c,.int .i64 x.t.r,.int .i64 x.pa,.int .i64 x.ch,.string x.nm,.float .f64 x.rk] 49)));have hDo:=hid (HD.out _ acc x _ hRx.out (by omega) hok.out r2);clear hx;go_wp2_with fail;refine hDo.out.mono ?_
   rintro e w2 ⟨⟨v2,rfl,hR2,hn2⟩,hb2⟩;replace hn2:Hid (Near2 w w2 v v2):=hid (hnr.out.trans hn2 (by simp;omega) (by have:=hb2.size;simp at this;omega));have hb3:=hid (hbx.out.trans (hb2.mono hbx.out.size));replace hR2:=hid hR2;clear hb2 hDo;go_wp2_with fail
   go_roundw
   case rel => exact ⟨k + 1,_,by go_num,by omega,hac2,by omega,hok2,hR2,hn2,hb3⟩
   case measure => simp [intOf];omega
  ·obtain rfl:k = ms.length:=by omega
   have hge:¬ ((ms.length:Int) < (ms.length:Nat)):=by omega
   have hac:=hacc.out;rw [List.take_length] at hac;replace hac:=hid hac;go_wp2_with fail;go_ret;exact ⟨⟨_,rfl,by rw [← hac.out];exact hRw.out,hnr.out⟩,hb.out⟩
end Fd
end
section
open Go.RowKit
namespace Tr
open Mem Tp Maps
theorem hasRow_any (g k:Nat) (D:DataW Unit) (l:List Rw) (x:Int) (w:World) (hM:PM w g k D) (hD:PD D l) (hx:InR x) :
  Calls Tryz.prog 117 #[.map (some g),.int .i64 x] w fun e w' => e = .returned (.bool (up l x).isSome) ∧ w = w':=by
 have HM:=hid hM;have hh:Hid (Maps.has D (kl x) = (up l x).isSome):=hid (hD.has_ x);have hk1:=hid (kl_of hx);rw [← hh.out];clear hM hD hh;generalize hq:Maps.has D (kl x) = q;go_enter Tryz.func117,Tryz.ntmps117
 go_wp2_with (at_lookup;refine wpList_lookup_own_ok_int _ (by rfl) _ _ 128 (by rfl) 3 3 .i64 keyI Tryz.underlying128 Tryz.underlying3 (zeroI _) g k D (by rfl) HM.out _ (kl x) (by rfl) hk1.out ?_;intro c hat hwc;clear hat hwc)
 go_ret;exact ⟨rfl,rfl⟩
end Tr
end
section
open Go.RowKit
namespace Mr
open Mem Tp
theorem enterP (args:Array Value) (w:World):(callFunc 127 args).run Tryz.prog w = .ok (.enter 127 args) w:=by simp [go_sem]
theorem enterR (args:Array Value) (w:World):(callFunc 88 args).run Tryz.prog w = .ok (.enter 88 args) w:=by simp [go_sem]
theorem place1_any (r:Mk) (b:Nat) (x:Int) (w:World) (hb:w.cell? ⟨b,0,none⟩ = some (.int .i64 x)) :
  Calls Tryz.prog 127 #[mkV r,.pointer (some ⟨b,0,none⟩)] w fun e w' => e = .returned (.bool (r.rep == x)) ∧ Below w.heap.size w w':=by
 have hlt:=World.block_lt_of_cell? _ _ hb;have hb2:(w.alloc (.cells #[.int .i64 r.rep,.int .i64 r.cnt] 112)).cell? ⟨b,0,none⟩ = some (.int .i64 x):=(((Below.refl w.heap.size w).alloc (Nat.le_refl _) _).cell (p:=⟨b,0,none⟩) hlt).trans hb;unfold mkV;obtain ⟨q,hq⟩:∃ q,(r.rep == x) = q:=⟨_,rfl⟩;rw [hq];go_enter Tryz.func127,Tryz.ntmps127;go_wp2_with fail;go_ret;exact ⟨rfl,(Below.refl w.heap.size w).alloc (Nat.le_refl _) _⟩
theorem raise1_any (r:Mk) (b:Nat) (x:Int) (w:World) (hb:w.cell? ⟨b,1,none⟩ = some (.int .i64 x)) :
  Calls Tryz.prog 88 #[mkV r,.pointer (some ⟨b,0,none⟩)] w fun e w' => e = .returned (.bool (decide (x < r.rep))) ∧ Below w.heap.size w w':=by
 have hlt:=World.block_lt_of_cell? _ _ hb;have hb2:(w.alloc (.cells #[.int .i64 r.rep,.int .i64 r.cnt] 112)).cell? ⟨b,1,none⟩ = some (.int .i64 x):=(((Below.refl w.heap.size w).alloc (Nat.le_refl _) _).cell (p:=⟨b,1,none⟩) hlt).trans hb;unfold mkV;obtain ⟨q,hq⟩:∃ q,decide (x < r.rep) = q:=⟨_,rfl⟩;rw [hq];go_enter Tryz.func88,Tryz.ntmps88;go_wp2_with fail;go_ret;exact ⟨rfl,(Below.refl w.heap.size w).alloc (Nat.le_refl _) _⟩
theorem place_any (v:Value) (l:List Mk) (x:Int) (w:World) (hS:Mem.Mks w v l) (hl:l.length ≤ 5000) :
  Calls Tryz.prog 85 #[v,.int .i64 x] w fun e w' => e = .returned (.tuple #[.int .i64 (idxI l (fun r => r.rep == x)),.bool (decide (0 ≤ idxI l (fun r => r.rep == x)))]) ∧ Below w.heap.size w w':=by
 have hmf:∀ (fn:Fn) (first cap:Array Value) (w:World),(Instr.makeFunc fn first cap).run Tryz.prog w = .ok (.func fn first cap) w:=fun _ _ _ _ => rfl
 have H:=hid (fun (W:World) (b:Nat) (hS:Mem.Mks W v l) (hb:W.cell? ⟨b,0,none⟩ = some (.int .i64 x)) => indexMk_any 127 #[.pointer (some ⟨b,0,none⟩)] v l (fun r => r.rep == x) W hS hl (fun r w1 => enterP _ w1) (fun r w1 _ hb1 => place1_any r b x w1 ((hb1.cell (p:=⟨b,0,none⟩) (World.block_lt_of_cell? _ _ hb)).trans hb)));have hS':=hid (hS.below ((Below.refl w.heap.size w).alloc (Nat.le_refl _) (.cells #[.int .i64 x] 3)));have hc0:(w.alloc (.cells #[.int .i64 x] 3)).cell? ⟨w.heap.size,0,none⟩ = some (.int .i64 x):=cell_at (alloc_new w _) 0;replace hc0:=hid hc0
 clear hS;generalize idxI l (fun r => r.rep == x) = n at *;go_enter Tryz.func85,Tryz.ntmps85;go_wp2_with fail;refine (H.out _ _ hS'.out hc0.out).mono ?_
 rintro e w2 ⟨rfl,hb2⟩;replace hb2:=hid (((Below.refl w.heap.size w).alloc (Nat.le_refl _) _).trans (hb2.mono (by simp)));go_wp2_with fail;go_ret2;exact ⟨rfl,hb2.out⟩
theorem getM_at {l:List Mk} {x:Int} {k:Nat} {r:Mk} (hk:l.findIdx (fun r => r.rep == x) = k) (hr:l[k]? = some r):getM l x = r.cnt:=by
 unfold getM
 have:l.find? (fun r => r.rep == x) = some r:=by
  obtain ⟨h1,h2⟩:=List.getElem?_eq_some_iff.1 hr;rw [List.find?_eq_some_iff_getElem];have h3:=List.findIdx_getElem (w:=by rw [hk];exact h1);simp only [hk] at h3;refine ⟨by rw [h2] at h3;exact h3,k,h1,h2,fun j hj => ?_⟩
  have:=List.not_of_lt_findIdx (p:=fun r:Mk => r.rep == x) (xs:=l) (i:=j) (by omega)
  simpa using this
 rw [this]
 rfl
theorem getM_no {l:List Mk} {x:Int} (h:¬ l.findIdx (fun r => r.rep == x) < l.length):getM l x = 0:=by
 unfold getM
 have h2:l.findIdx (fun r => r.rep == x) = l.length:=by have:=List.findIdx_le_length (xs:=l) (p:=fun r => r.rep == x);omega
 rw [List.findIdx_eq_length] at h2;rw [List.find?_eq_none.2 (fun x hx => by rw [h2 x hx];decide)]
 rfl
theorem get_any (v:Value) (l:List Mk) (x:Int) (w:World) (hS:Mem.Mks w v l) (hl:l.length ≤ 5000) :
  Calls Tryz.prog 74 #[v,.int .i64 x] w fun e w' => e = .returned (.int .i64 (getM l x)) ∧ Below w.heap.size w w':=by
 have HP:=hid (place_any v l x w hS hl);obtain ⟨P,hP⟩:∃ P,P = idxI l (fun x_1 => x_1.rep == x):=⟨_,rfl⟩;rw [← hP] at HP;have hP':=hid hP;clear hP;obtain ⟨G,hG⟩:∃ G,G = getM l x:=⟨_,rfl⟩;rw [← hG];have hG':=hid hG;clear hG;obtain ⟨a,c,hv⟩:=hS.len;have HS:=hid hS;replace hv:=hid hv;clear hS;go_enter Tryz.func74,Tryz.ntmps74;go_wp2_with fail;refine HP.out.mono ?_
 rintro e w2 ⟨rfl,hb2⟩;replace hb2:=hid hb2;replace hv:=hv.out;subst hv;clear HP
 by_cases hf:l.findIdx (fun y => y.rep == x) < l.length
 ·have hPe:P = ((l.findIdx (fun y => y.rep == x):Nat):Int):=hP'.out.trans (Tr.idxI_lt hf)
  obtain ⟨k,hk⟩:∃ k,l.findIdx (fun y => y.rep == x) = k:=⟨_,rfl⟩;rw [hk] at hPe hf;obtain ⟨r,hr⟩:=some_at hf;have hGe:=hG'.out.trans (getM_at hk hr);subst hPe hGe;obtain ⟨b,off,rfl⟩:=HS.out.addr (by omega);obtain ⟨q0,q1⟩:=mk_at (HS.out.below hb2.out) rfl hr;have d0:decide ((0:Int) ≤ (k:Int)) = true:=decide_eq_true (by omega)
  have d1:(0:Int) ≤ (k:Int):=by omega
  have d2:(k:Int) < (l.length:Nat):=by omega
  clear hk hr hP' hG';go_wp2_with fail;go_ret;exact ⟨rfl,hb2.out⟩
 ·have hPe:P = -1:=hP'.out.trans (Tr.idxI_no hf)
  have hGe:=hG'.out.trans (getM_no hf);subst hPe hGe;have d0:decide ((0:Int) ≤ -1) = false:=decide_eq_false (by omega);clear hP' hG' hf;go_wp2_with fail;go_ret;exact ⟨rfl,hb2.out⟩
end Mr
end
section
open Go.RowKit
namespace Mr
open Mem Tp
attribute [local go_sem] Fl.run_store_float
theorem greatest_any (v:Value) (l:List Int) (x:Int) (w:World) (hS:Is w v l) (hl:l.length ≤ 5000) :
  Calls Tryz.prog 86 #[.int .i64 x,v] w fun e w' => e = .returned (.int .i64 (l.foldl max x)) ∧ w = w':=by
 obtain ⟨a,c,rfl⟩:=hS.len;have HS:=hid hS;clear hS;go_enter Tryz.func86,Tryz.ntmps86;go_wp2_with fail
 go_loopw [0,9] (fun g i wr => ∃ k:Nat,i = .int .i64 k ∧ k ≤ l.length ∧ g = .int .i64 ((l.take k).foldl max x) ∧ w = wr) (fun _ i _ => l.length - (intOf i).toNat)
 case atStart => exact ⟨0,rfl,by omega,rfl,rfl⟩
 case round =>
  obtain ⟨k,rfl,hk,rfl,rfl⟩:=hrel
  by_cases hlt:k < l.length
  ·have hlt':(k:Int) < (l.length:Nat):=by omega
   obtain ⟨y,hy⟩:=some_at hlt;obtain ⟨b,off,rfl⟩:=HS.out.addr (by omega);have hc:=sl_one HS.out rfl hy;unfold i64C at hc;have hsn:Hid ((l.take (k + 1)).foldl max x = max ((l.take k).foldl max x) y):=hid (by rw [take_snoc hy,List.foldl_append];rfl);clear hy;generalize (l.take k).foldl max x = z at *;go_wp2_with fail
   go_roundw
   case rel => exact ⟨k + 1,by go_num,by omega,by rw [hsn.out],trivial⟩
   case measure => simp [intOf];omega
  ·obtain rfl:k = l.length:=by omega
   have hge:¬ ((l.length:Int) < (l.length:Nat)):=by omega
   have hz:Hid ((l.take l.length).foldl max x = l.foldl max x):=hid (by rw [List.take_length]);generalize (l.take l.length).foldl max x = z at *;go_wp2_with fail;go_ret;exact ⟨by rw [← hz.out];rfl,rfl⟩
theorem is_one {w:World} {b:Nat} {x:Int} {ty:TypeId} (h:w.heap[b]? = some (.cells #[.int .i64 x] ty (0,0))):Is w (.slice (some ⟨b,0,none⟩) 1 1) [x]:=
 ⟨_,1,rfl,Nat.le_refl _,(fun e => by cases e),fun _ => ⟨b,0,rfl,lt_of_block h,fun j u hj => by rw [Nat.zero_add];exact block_cells h j u (by simpa [i64C] using hj)⟩⟩
theorem mk_set (l:List Mk):∀ (k:Nat) (r:Mk) (c:Int),l[k]? = some r → (l.flatMap mkC).set (k * 2 + 1) (.int .i64 c) = (l.set k ⟨r.rep,c⟩).flatMap mkC:=by
 induction l with
 | nil => intro k r c h;simp at h
 | cons x l ih =>
  intro k r c h
  cases k with
  | zero =>
   simp only [List.getElem?_cons_zero,Option.some.injEq] at h;subst h;simp [mkC]
  | succ k =>
   rw [List.set_cons_succ,List.flatMap_cons,List.flatMap_cons,← ih k r c (by simpa using h),List.set_append_right _ _ (by rw [mkC_len];omega),mkC_len,show (k + 1) * 2 + 1 - 2 = k * 2 + 1 by omega]
theorem modify_set {l:List Mk} {k:Nat} {r:Mk} {f:Mk → Mk} (h:l[k]? = some r):l.modify k f = l.set k (f r):=by
 apply List.ext_getElem?
 intro j;rw [List.getElem?_modify,List.getElem?_set]
 by_cases e:k = j
 ·subst e
  obtain ⟨h1,h2⟩:=List.getElem?_eq_some_iff.1 h;simp [h1,h2]
 ·simp [e]
theorem raise_any (v:Value) (l:List Mk) (t:Tm) (w:World) (hS:Mem.Mks w v l) (hl:l.length ≤ 4000) :
  Calls Tryz.prog 44 #[v,tmV t] w fun e w' => (∃ v',e = .returned v' ∧ w'.ownsRow (w.heap.size + 1) 112 2 v' (raiseM l t).length ((raiseM l t).flatMap mkC)) ∧ Below w.heap.size w w':=by
 have hmf:∀ (fn:Fn) (first cap:Array Value) (w:World),(Instr.makeFunc fn first cap).run Tryz.prog w = .ok (.func fn first cap) w:=fun _ _ _ _ => rfl
 have HC:=hid (fun W v (h:Mem.Mks W v l) => cloneMk_any v l.length (l.flatMap mkC) W h (flat_length mkC_len l) (by omega) (flat_ones mkC_one l));have HP:=hid (fun W v (h:Mem.Mks W v l) => place_any v l t.r W h (by omega))
 have HI:=hid (fun (W:World) (v:Value) (b:Nat) (hS:Mem.Mks W v l) (hb:W.cell? ⟨b,1,none⟩ = some (.int .i64 t.r)) => indexMk_any 88 #[.pointer (some ⟨b,0,none⟩)] v l (fun x => decide (t.r < x.rep)) W hS (by omega) (fun x w1 => enterR _ w1) (fun x w1 _ hb1 => raise1_any x b t.r w1 ((hb1.cell (p:=⟨b,1,none⟩) (World.block_lt_of_cell? _ _ hb)).trans hb)));have HN:=hid (fun (W:World) (v:Value) (i B vb vc:Nat) h1 h2 h3 h4 h5 => insertMk_any v l.length i (l.flatMap mkC) (mkC ⟨t.r,t.c⟩) B vb vc W h1 h2 h3 (by omega) (mkC_len _) (mkC_one _) (flat_ones mkC_one l) h4 h5)
 have HG:=hid (fun (W:World) (v:Value) (x:Int) (h:Is W v [t.c]) => greatest_any v [t.c] x W h (by simp));have hb:=(Below.refl w.heap.size w).alloc (Nat.le_refl _) (.cells #[.int .i64 t.c,.int .i64 t.r] 24);have hg:=alloc_new w (.cells #[.int .i64 t.c,.int .i64 t.r] 24)
 have hsz:(w.alloc (.cells #[.int .i64 t.c,.int .i64 t.r] 24)).heap.size = w.heap.size + 1:=by simp
 have hSW:=hid (hS.below hb);replace hb:=hid hb;replace hg:=hid hg;replace hsz:=hid hsz;clear hS;obtain ⟨P,hP⟩:∃ P,P = idxI l (fun x => x.rep == t.r):=⟨_,rfl⟩;obtain ⟨I,hI⟩:∃ I,I = idxI l (fun x => decide (t.r < x.rep)):=⟨_,rfl⟩;rw [← hP] at HP;rw [← hI] at HI;have hP':=hid hP;have hI':=hid hI;clear hP hI;unfold tmV;go_enter Tryz.func44,Tryz.ntmps44;go_wp2_with fail;generalize w.alloc (.cells #[.int .i64 t.c,.int .i64 t.r] 24) = W at *;refine (HC.out W v hSW.out).mono ?_
 rintro e w1 ⟨v1,rfl,hO1,hb1⟩;rw [hsz.out] at hO1;have hg1:=hid (below_at hb1 hg.out (by rw [hsz.out];omega));have c1:w1.cell? ⟨w.heap.size,1,none⟩ = some (.int .i64 t.r):=cell_at hg1.out 1;have hS1:=hid (hSW.out.below hb1);have hbb:=hid (hb.out.trans (hb1.mono (by rw [hsz.out];omega)));replace hO1:=hid hO1
 have hs1:w.heap.size + 1 ≤ w1.heap.size:=by have:=hb1.size;rw [hsz.out] at this;exact this
 clear hb1 hb hg hSW;go_wp2_with fail;refine (HP.out w1 v hS1.out).mono ?_
 rintro e w2 ⟨rfl,hb2⟩;have hg2:=hid (below_at hb2 hg1.out (by omega));clear c1;have c0:w2.cell? ⟨w.heap.size,0,none⟩ = some (.int .i64 t.c):=cell_at hg2.out 0;have c1:w2.cell? ⟨w.heap.size,1,none⟩ = some (.int .i64 t.r):=cell_at hg2.out 1;have hS2:=hid (hS1.out.below hb2);replace hbb:=hid (hbb.out.trans (hb2.mono (by omega)));replace hO1:=hid (own_below hO1.out hb2);have hs2:=hb2.size;clear hb2 hg1 hS1
 by_cases hf:l.findIdx (fun x => x.rep == t.r) < l.length
 ·have hPe:P = ((l.findIdx (fun x => x.rep == t.r):Nat):Int):=hP'.out.trans (Tr.idxI_lt hf)
  have hse:Hid (raiseM l t = l.modify (l.findIdx (fun x => x.rep == t.r)) (fun x => ⟨x.rep,max x.cnt t.c⟩)):=hid (by unfold raiseM;rw [if_pos hf]);generalize l.findIdx (fun x => x.rep == t.r) = k at *;subst hPe;have d0:decide ((0:Int) ≤ (k:Int)) = true:=decide_eq_true (by omega)
  have d1:(0:Int) ≤ (k:Int):=by omega
  have hk:(k:Int) < (l.length:Nat):=by omega
  obtain ⟨r,hr⟩:=some_at hf;obtain ⟨hcl,hcases⟩:=hO1.out
  rcases hcases with ⟨-,h0⟩ | ⟨g,cap,cur,rfl,hgB,hh,hnc,hm,hcs,htk⟩
  ·omega
  have hslg:Mem.Mks w2 (.slice (some ⟨g,0,none⟩) l.length cap) l:=own_sl hO1.out;obtain ⟨-,q1⟩:=mk_at hslg rfl hr;rw [Nat.zero_add] at q1;have f1:w2.frozen? ⟨g,k * 2 + 1,none⟩ = false:=free_at hh _
  have q1a:=fun y => (((Below.refl w2.heap.size w2).alloc (Nat.le_refl _) y).cell (p:=⟨g,k * 2 + 1,none⟩) (lt_of_block hh)).trans q1
  have f1a:=fun y => ((Below.refl w2.heap.size w2).alloc (Nat.le_refl _) y).frozen (p:=⟨g,k * 2 + 1,none⟩) (lt_of_block hh)
  rw [f1] at f1a;have hh':=hid hh;have hcs':=hid hcs;have htk':=hid htk;have hms:=hid (mk_set l k r (max r.cnt t.c) hr);have hmo:=hid (modify_set (f:=fun x:Mk => (⟨x.rep,max x.cnt t.c⟩:Mk)) hr);clear hcs htk hh hcl hslg hr
  have hfin:∀ Wf:World,Wf.heap[g]? = some (.cells (cur.setIfInBounds (k * 2 + 1) (.int .i64 (max r.cnt t.c))) 112 (0,0)) → Wf.ownsRow (w.heap.size + 1) 112 2 (.slice (some ⟨g,0,none⟩) l.length cap) (raiseM l t).length ((raiseM l t).flatMap mkC):=fun Wf h => by
   rw [hse.out,hmo.out,List.length_set,← hms.out];refine ⟨by rw [List.length_set,flat_length mkC_len],.inr ⟨g,cap,_,rfl,hgB,h,hnc,hm,by simpa using hcs'.out,?_⟩⟩
   rw [Array.toList_setIfInBounds,List.take_set,htk'.out]
  go_wp2_with fail
  go_region_with ((go_at_call 86;(refine (HG.out _ _ _ (by exact is_one (alloc_new w2 _))).mono ?_);rintro e w3 ⟨rfl,rfl⟩))
  all_goals
   go_wp2_with fail;go_ret;refine ⟨⟨_,rfl,hfin _ (set_at (alloc_at _ hh'.out) _ _)⟩,?_⟩
   repeat (first | exact hbb.out | apply Below.drew | refine Below.alloc ?_ (by show w.heap.size ≤ w2.heap.size;omega) _ | refine Below.setCell ?_ (by show w.heap.size ≤ g;omega) _)
 ·have hPe:P = -1:=hP'.out.trans (Tr.idxI_no hf)
  subst hPe;have d0:decide ((0:Int) ≤ -1) = false:=decide_eq_false (by omega)
  by_cases ht:t.c ≤ 0
  ·have hse:Hid (raiseM l t = l):=hid (by unfold raiseM;rw [if_neg hf,if_pos ht])
   have d1:=decide_eq_true ht;clear hf;go_wp2_with fail;go_ret;exact ⟨⟨_,rfl,by rw [hse.out];exact hO1.out⟩,hbb.out⟩
  ·have hse:Hid (raiseM l t = l.take (l.findIdx (fun x => decide (t.r < x.rep))) ++ ⟨t.r,t.c⟩ :: l.drop (l.findIdx (fun x => decide (t.r < x.rep)))):=hid (by unfold raiseM;rw [if_neg hf,if_neg ht])
   have d1:=decide_eq_false ht;clear hf;go_wp2_with fail;refine (HI.out w2 v w.heap.size hS2.out c1).mono ?_
   rintro e w3 ⟨rfl,hb3⟩;have hg3:=hid (below_at hb3 hg2.out (by omega));clear c0 c1;have c0:w3.cell? ⟨w.heap.size,0,none⟩ = some (.int .i64 t.c):=cell_at hg3.out 0;have c1:w3.cell? ⟨w.heap.size,1,none⟩ = some (.int .i64 t.r):=cell_at hg3.out 1;have hS3:=hid (hS2.out.below hb3);replace hbb:=hid (hbb.out.trans (hb3.mono (by omega)));replace hO1:=hid (own_below hO1.out hb3);have hs3:=hb3.size;clear hb3 hg2 hS2;have hKl:l.findIdx (fun x => decide (t.r < x.rep)) ≤ l.length:=List.findIdx_le_length;obtain ⟨av,cv,hv⟩:=hS3.out.len
   by_cases hf2:l.findIdx (fun x => decide (t.r < x.rep)) < l.length
   ·have hIe:I = ((l.findIdx (fun x => decide (t.r < x.rep)):Nat):Int):=hI'.out.trans (Tr.idxI_lt hf2)
    generalize l.findIdx (fun x => decide (t.r < x.rep)) = k at *;subst hIe;have d1:decide ((k:Int) < 0) = false:=decide_eq_false (by omega)
    have d2:¬ ((k:Int) < 0):=by omega
    go_wp2_with fail;have hg4:=alloc_new w3 (.cells #[.int .i64 t.r,.int .i64 t.c] 112);have hO4:=World.ownsRow.alloc hO1.out (.cells #[.int .i64 t.r,.int .i64 t.c] 112);have hlo:=hO1.out.lt;refine (HN.out _ v1 k (w.heap.size + 1) w3.heap.size 1 hO4 (by simp;omega) hKl hg4 (fun g c e => by subst e;have:=(hlo g rfl).2;omega)).mono ?_
    rintro e w5 ⟨v5,rfl,hO5,hb5⟩;have hbf:=hid ((hbb.out.alloc (by omega) (.cells #[.int .i64 t.r,.int .i64 t.c] 112)).trans (hb5.mono (by omega)));replace hO5:=hid hO5;clear hb5 hO4 hg4 hlo;go_wp2_with fail;go_ret;refine ⟨⟨_,rfl,?_⟩,hbf.out⟩
    rw [hse.out,List.length_append,List.length_cons,List.length_take,List.length_drop,List.flatMap_append,List.flatMap_cons,Tr.flat_take mkC_len,Tr.flat_drop mkC_len,← List.append_assoc,show min k l.length + (l.length - k + 1) = l.length + 1 by omega];exact hO5.out
   ·have hIe:I = -1:=hI'.out.trans (Tr.idxI_no hf2)
    have hke:l.findIdx (fun x => decide (t.r < x.rep)) = l.length:=by omega
    rw [hke] at hse hKl;subst hIe hv;clear hke hf2;go_wp2_with fail;have hg4:=alloc_new w3 (.cells #[.int .i64 t.r,.int .i64 t.c] 112);have hO4:=World.ownsRow.alloc hO1.out (.cells #[.int .i64 t.r,.int .i64 t.c] 112);have hlo:=hO1.out.lt;refine (HN.out _ v1 l.length (w.heap.size + 1) w3.heap.size 1 hO4 (by simp;omega) hKl hg4 (fun g c e => by subst e;have:=(hlo g rfl).2;omega)).mono ?_
    rintro e w5 ⟨v5,rfl,hO5,hb5⟩;have hbf:=hid ((hbb.out.alloc (by omega) (.cells #[.int .i64 t.r,.int .i64 t.c] 112)).trans (hb5.mono (by omega)));replace hO5:=hid hO5;clear hb5 hO4 hg4 hlo;go_wp2_with fail;go_ret;refine ⟨⟨_,rfl,?_⟩,hbf.out⟩
    rw [hse.out,List.length_append,List.length_cons,List.length_take,List.length_drop,List.flatMap_append,List.flatMap_cons,Tr.flat_take mkC_len,Tr.flat_drop mkC_len,← List.append_assoc,show min l.length l.length + (l.length - l.length + 1) = l.length + 1 by omega];exact hO5.out
theorem of_snoc (l:List Mv) (x:Mv):ofM (l ++ [x]) = raiseM (ofM l) x.t:=by unfold ofM;rw [List.foldl_append];rfl
theorem raise_len (v:List Mk) (t:Tm):(raiseM v t).length ≤ v.length + 1:=by
 unfold raiseM
 split
 ·rw [List.length_modify];omega
 ·split
  ·omega
  ·rw [List.length_append,List.length_cons,List.length_take,List.length_drop]
   omega
theorem of_len (l:List Mv):∀ v:List Mk,(l.foldl (fun v m => raiseM v m.t) v).length ≤ v.length + l.length:=by
 induction l with
 | nil => intro v;simp
 | cons m l ih =>
  intro v;rw [List.foldl_cons,List.length_cons];have:=ih (raiseM v m.t);have:=raise_len v m.t;omega
theorem of_any (v:Value) (l:List Mv) (w:World) (hS:Mem.Mvs w v l) (hl:l.length ≤ 2000) :
  Calls Tryz.prog 26 #[v] w fun e w' => (∃ v',e = .returned v' ∧ w'.ownsRow w.heap.size 112 2 v' (ofM l).length ((ofM l).flatMap mkC)) ∧ Below w.heap.size w w':=by
 obtain ⟨a,c,rfl⟩:=hS.len;have HS:=hid hS;have HR:=hid (fun (W:World) (v:Value) (l:List Mk) (t:Tm) h1 h2 => raise_any v l t W h1 h2);clear hS;unfold tmV at HR;go_enter Tryz.func26,Tryz.ntmps26;go_wp2_with fail
 go_loopw [3,8] (fun o i wr => ∃ k:Nat,i = .int .i64 k ∧ k ≤ l.length ∧ Hid (wr.ownsRow w.heap.size 112 2 o (ofM (l.take k)).length ((ofM (l.take k)).flatMap mkC)) ∧ Hid (Below w.heap.size w wr)) (fun _ i _ => l.length - (intOf i).toNat)
 case atStart => exact ⟨0,rfl,by omega,hid (World.ownsRow_nil _ _ _ _),hid (Below.refl _ _)⟩
 case round =>
  obtain ⟨k,rfl,hk,hO,hb⟩:=hrel
  by_cases hlt:k < l.length
  ·have hlt':(k:Int) < (l.length:Nat):=by omega
   obtain ⟨x,hx⟩:=some_at hlt;obtain ⟨b,off,rfl⟩:=HS.out.addr (by omega);obtain ⟨q0,q1,q2,q3,q4,q5⟩:=mov_at (HS.out.below hb.out) rfl hx;have hsn:Hid (ofM (l.take (k + 1)) = raiseM (ofM (l.take k)) x.t):=hid (by rw [take_snoc hx,of_snoc])
   have hsl:(ofM (l.take k)).length ≤ 2000:=by
    have:=of_len (l.take k) [];rw [List.length_take,List.length_nil] at this;unfold ofM;omega
   have hxx:=alloc_new wr (.cells #[.int .i64 x.t.c,.int .i64 x.t.r,.int .i64 x.pa,.int .i64 x.ch,.string x.nm,.float .f64 x.rk] 49);have hbx:=hid (hb.out.alloc (by have:=hb.out.size;omega) (.cells #[.int .i64 x.t.c,.int .i64 x.t.r,.int .i64 x.pa,.int .i64 x.ch,.string x.nm,.float .f64 x.rk] 49));have hOx:=hid (show Mem.Mks (wr.alloc (.cells #[.int .i64 x.t.c,.int .i64 x.t.r,.int .i64 x.pa,.int .i64 x.ch,.string x.nm,.float .f64 x.rk] 49)) _ _ from own_sl (World.ownsRow.alloc hO.out _));have hsz:=hb.out.size;generalize ofM (l.take k) = acc at *
   clear hx hO hxx;go_wp2_with fail;refine (HR.out _ _ acc x.t hOx.out (by omega)).mono ?_
   rintro e w2 ⟨⟨v2,rfl,hO2⟩,hb2⟩;have hb3:=hid (hbx.out.trans (hb2.mono (by simp;omega)));have hO3:Hid (w2.ownsRow w.heap.size 112 2 v2 (ofM (l.take (k + 1))).length ((ofM (l.take (k + 1))).flatMap mkC)):=hid (by rw [hsn.out];exact own_mono hO2 (by simp;omega));clear hb2 hO2;go_wp2_with fail
   go_roundw
   case rel => exact ⟨k + 1,by go_num,by omega,hO3,hb3⟩
   case measure => simp [intOf];omega
  ·obtain rfl:k = l.length:=by omega
   have hge:¬ ((l.length:Int) < (l.length:Nat)):=by omega
   rw [List.take_length] at hO;go_wp2_with fail;go_ret;exact ⟨⟨_,rfl,hO.out⟩,hb.out⟩
end Mr
end
section
open Go.RowKit
namespace Mr
open Mem Tp
theorem below1_any (x:Mk) (ba bb:Nat) (va vb:Value) (a b:List Mk) (w:World) (ca:w.cell? ⟨ba,0,none⟩ = some va) (cb:w.cell? ⟨bb,0,none⟩ = some vb) (hA:Mem.Mks w va a) (hB:Mem.Mks w vb b) (hal:a.length ≤ 5000) (hbl:b.length ≤ 5000) :
  Calls Tryz.prog 121 #[mkV x,.pointer (some ⟨ba,0,none⟩),.pointer (some ⟨bb,0,none⟩)] w fun e w' => e = .returned (.bool (decide (getM b x.rep < getM a x.rep))) ∧ Below w.heap.size w w':=by
 have HG:=hid (fun (W:World) (v:Value) (l:List Mk) (h:Mem.Mks W v l) (hl:l.length ≤ 5000) => get_any v l x.rep W h hl);have hb0:=(Below.refl w.heap.size w).alloc (Nat.le_refl _) (.cells #[.int .i64 x.rep,.int .i64 x.cnt] 112)
 have hsz:(w.alloc (.cells #[.int .i64 x.rep,.int .i64 x.cnt] 112)).heap.size = w.heap.size + 1:=by simp
 have hg0:=alloc_new w (.cells #[.int .i64 x.rep,.int .i64 x.cnt] 112);have hla:=World.block_lt_of_cell? _ _ ca;have hlb:=World.block_lt_of_cell? _ _ cb;have hA0:=hid (hA.below hb0);have hB0:=hid (hB.below hb0);have ca0:=(hb0.cell (p:=⟨ba,0,none⟩) hla).trans ca;have cb0:=(hb0.cell (p:=⟨bb,0,none⟩) hlb).trans cb;obtain ⟨pa,qa,ha⟩:=hA.len;obtain ⟨pb,qb,hb⟩:=hB.len;replace hb0:=hid hb0;replace hg0:=hid hg0;replace hsz:=hid hsz;have ca0':=hid ca0;have cb0':=hid cb0;subst ha hb;clear ca cb hA hB ca0 cb0;unfold mkV;go_enter Tryz.func121,Tryz.ntmps121
 go_wp2_with fail;generalize w.alloc (.cells #[.int .i64 x.rep,.int .i64 x.cnt] 112) = W at *;have c0:W.cell? ⟨w.heap.size,0,none⟩ = some (.int .i64 x.rep):=cell_at hg0.out 0;have c1:=ca0'.out;have c2:=cb0'.out
 have cS:∀ W2:World,Below W.heap.size W W2 → W2.cell? ⟨w.heap.size,0,none⟩ = some (.int .i64 x.rep) ∧ W2.cell? ⟨ba,0,none⟩ = some (.slice pa a.length qa) ∧ W2.cell? ⟨bb,0,none⟩ = some (.slice pb b.length qb) ∧ Below W.heap.size W W2:=fun W2 h =>
  ⟨(h.cell (p:=⟨w.heap.size,0,none⟩) (by rw [hsz.out];show w.heap.size < _;omega)).trans c0,(h.cell (p:=⟨ba,0,none⟩) (by rw [hsz.out];show ba < _;omega)).trans c1,(h.cell (p:=⟨bb,0,none⟩) (by rw [hsz.out];show bb < _;omega)).trans c2,h⟩
 replace cS:=hid cS;clear c0 c1 c2
 go_region_held3 (fun W2:World => W2.cell? ⟨w.heap.size,0,none⟩ = some (.int .i64 x.rep) ∧ W2.cell? ⟨ba,0,none⟩ = some (.slice pa a.length qa) ∧ W2.cell? ⟨bb,0,none⟩ = some (.slice pb b.length qb) ∧ Below W.heap.size W W2) (first | assumption | exact cS.out _ (Below.refl _ _) | exact cS.out _ (Below.refl _ _).drew | exact cS.out _ hbd.out | exact cS.out _ hbc.out) (first
  | (go_at_call 74;(refine (HG.out _ _ _ (by first | exact hA0.out.below (Below.refl _ _).drew | exact hB0.out.below (Below.refl _ _).drew | exact hA0.out.below hbc.out.drew | exact hB0.out.below hbc.out.drew | exact hA0.out.below hbc.out | exact hB0.out.below hbc.out) (by assumption)).mono ?_);rintro e w3 ⟨rfl,hx⟩;first | (have hbd:=hid (hbc.out.drew.trans (hx.mono hbc.out.size));clear hx) | (have hbd:=hid (hbc.out.trans (hx.mono hbc.out.size));clear hx) | (have hbc:=hid ((Below.refl _ W).drew.trans hx);clear hx)))
 all_goals
  have hbf:=hid (hb0.out.trans (hbd.out.mono (by show w.heap.size ≤ W.heap.size;rw [hsz.out];omega)));clear hbc hbd;go_wp2_with fail;go_ret;exact ⟨rfl,hbf.out⟩
theorem enterBelow (args:Array Value) (w:World):(callFunc 121 args).run Tryz.prog w = .ok (.enter 121 args) w:=by simp [go_sem]
theorem below_ok (va vb:Value) (a b:List Mk) (w:World) (hA:Mem.Mks w va a) (hB:Mem.Mks w vb b) (hal:a.length ≤ 5000) (hbl:b.length ≤ 5000) (hle:∀ x ∈ a,getM a x.rep ≤ getM b x.rep) :
  Calls Tryz.prog 70 #[va,vb] w fun e w' => e = .returned (.bool true) ∧ Below w.heap.size w w':=by
 have hmf:∀ (fn:Fn) (first cap:Array Value) (w:World),(Instr.makeFunc fn first cap).run Tryz.prog w = .ok (.func fn first cap) w:=fun _ _ _ _ => rfl
 have hno:a.any (fun x => decide (getM b x.rep < getM a x.rep)) = false:=List.any_eq_false.2 (fun x hx => by have:=hle x hx;simp;omega);obtain ⟨pa,qa,ha⟩:=hA.len;obtain ⟨pb,qb,hb⟩:=hB.len;have hb0:=((Below.refl w.heap.size w).alloc (Nat.le_refl _) (.cells #[va] 32)).alloc (by simp) (.cells #[vb] 32);have hg0:=alloc_at (.cells #[vb] 32) (alloc_new w (.cells #[va] 32))
 have hg1:((w.alloc (.cells #[va] 32)).alloc (.cells #[vb] 32)).heap[w.heap.size + 1]? = some (.cells #[vb] 32 (0,0)):=by
  have:=alloc_new (w.alloc (.cells #[va] 32)) (.cells #[vb] 32)
  simpa using this
 have hsz:((w.alloc (.cells #[va] 32)).alloc (.cells #[vb] 32)).heap.size = w.heap.size + 1 + 1:=by simp
 have hA0:=hid (hA.below hb0);have hB0:=hid (hB.below hb0)
 have HC:=hid (fun (W:World) (hA:Mem.Mks W va a) (hB:Mem.Mks W vb b) (ca:W.cell? ⟨w.heap.size,0,none⟩ = some va) (cb:W.cell? ⟨w.heap.size + 1,0,none⟩ = some vb) => containsMk_any 121 #[.pointer (some ⟨w.heap.size,0,none⟩),.pointer (some ⟨w.heap.size + 1,0,none⟩)] va a (fun x => decide (getM b x.rep < getM a x.rep)) W hA (by omega) (fun x w1 => enterBelow _ w1) (fun x w1 hx hb1 => below1_any x _ _ va vb a b w1 ((hb1.cell (p:=⟨w.heap.size,0,none⟩) (World.block_lt_of_cell? _ _ ca)).trans ca) ((hb1.cell (p:=⟨w.heap.size + 1,0,none⟩) (World.block_lt_of_cell? _ _ cb)).trans cb) (hA.below hb1) (hB.below hb1) hal hbl))
 rw [hno] at HC;subst ha hb;replace hb0:=hid hb0;replace hg0:=hid hg0;replace hg1:=hid hg1;replace hsz:=hid hsz;clear hA hB hno hle;go_enter Tryz.func70,Tryz.ntmps70;go_wp2_with fail;refine (HC.out _ hA0.out hB0.out (cell_at hg0.out 0) (cell_at hg1.out 0)).mono ?_
 rintro e w3 ⟨rfl,hb3⟩;replace hb3:=hid (hb0.out.trans (hb3.mono (by rw [hsz.out];omega)));go_wp2_with fail;go_ret;exact ⟨rfl,hb3.out⟩
theorem bel_drewN' {B:Nat} {w W:World} (h:Below B w W) (n:Nat):Below B w (W.drewN n):=⟨h.os,h.tape,h.output,h.size,h.block⟩
def okMks (l:List Mk):Prop:=(∀ x ∈ l,1 ≤ x.rep ∧ x.rep ≤ 255 ∧ 1 ≤ x.cnt ∧ x.cnt ≤ 4611686018427387903) ∧ ∀ (j:Nat) (a b:Mk),l[j]? = some a → l[j + 1]? = some b → a.rep < b.rep
theorem may_ok (v:Value) (l:List Mk) (w:World) (hS:Mem.Mks w v l) (hl:l.length ≤ 5000) (hok:okMks l) :
  Calls Tryz.prog 68 #[v] w fun e w' => e = .returned (.bool true) ∧ Below w.heap.size w w':=by
 obtain ⟨a,c,rfl⟩:=hS.len;have HS:=hid hS;have HO:=hid hok;clear hS hok;go_enter Tryz.func68,Tryz.ntmps68;go_wp2_with fail
 go_loopw [7] (fun i wr => ∃ k:Nat,i = .int .i64 k ∧ k ≤ l.length ∧ Hid (Below w.heap.size w wr)) (fun i _ => l.length - (intOf i).toNat)
 case atStart => exact ⟨0,rfl,by omega,hid (Below.refl _ _)⟩
 case round =>
  obtain ⟨k,rfl,hk,hb⟩:=hrel
  by_cases hlt:k < l.length
  ·have hlt':(k:Int) < (l.length:Nat):=by omega
   obtain ⟨x,hx⟩:=some_at hlt;obtain ⟨b,off,rfl⟩:=HS.out.addr (by omega);have hSr:=HS.out.below hb.out;have hbl:=sl_lt hSr (by omega);obtain ⟨q0,q1⟩:=mk_at hSr rfl hx;obtain ⟨o1,o2,o3,o4⟩:=HO.out.1 x (List.mem_of_getElem? hx);have d1:decide (x.rep < 1) = false:=decide_eq_false (by omega);have d2:decide (255 < x.rep) = false:=decide_eq_false (by omega);have d3:decide (x.cnt < 1) = false:=decide_eq_false (by omega);have d4:decide (4611686018427387903 < x.cnt) = false:=decide_eq_false (by omega)
   have hg:=alloc_new wr (.cells #[.int .i64 x.rep,.int .i64 x.cnt] 112);have hbx:=hid (hb.out.alloc (by have:=hb.out.size;omega) (.cells #[.int .i64 x.rep,.int .i64 x.cnt] 112));have hSx:=hid (hSr.below ((Below.refl wr.heap.size wr).alloc (Nat.le_refl _) (.cells #[.int .i64 x.rep,.int .i64 x.cnt] 112)));replace hg:=hid hg;have hx':=hid hx;clear hx hSr;go_wp2_with fail;generalize wr.alloc (.cells #[.int .i64 x.rep,.int .i64 x.cnt] 112) = W at *;have c0:W.cell? ⟨wr.heap.size,0,none⟩ = some (.int .i64 x.rep):=cell_at hg.out 0
   have c1:W.cell? ⟨wr.heap.size,1,none⟩ = some (.int .i64 x.cnt):=cell_at hg.out 1;clear q0 q1
   cases k with
   | zero =>
    have d5:decide ((0:Int) < 0) = false:=rfl;go_quiet (fail);go_wp2_with fail;have hbn:=hid (bel_drewN' hbx.out nq)
    go_roundw
    case rel => exact ⟨1,rfl,by omega,hbn⟩
    case measure => simp [intOf];omega
   | succ k =>
    have d5:decide ((0:Int) < ((k + 1:Nat):Int)) = true:=decide_eq_true (by omega);have d6:decide ((0:Int) < (k:Int) + 1) = true:=decide_eq_true (by omega);obtain ⟨y,hy⟩:=some_at (show k < l.length by omega);obtain ⟨p0,-⟩:=mk_at hSx.out rfl hy;have hyx:=HO.out.2 k y x hy hx'.out;have d7:decide (x.rep ≤ y.rep) = false:=decide_eq_false (by omega)
    have hw1:IntKind.i64.wrap ((k:Int) + 1 - 1) = (k:Int):=by rw [IntKind.wrap_i64];omega
    have hw3:IntKind.i64.wrap (k:Int) = (k:Int):=by rw [IntKind.wrap_i64];omega
    have e1:(0:Int) ≤ (k:Int):=by omega
    have e2:(k:Int) < (l.length:Nat):=by omega
    clear hy;go_quiet (fail);go_wp2_with fail;have hbn:=hid (bel_drewN' hbx.out nq)
    go_roundw
    case rel => exact ⟨k + 1 + 1,by go_num,by omega,hbn⟩
    case measure => simp [intOf];omega
  ·obtain rfl:k = l.length:=by omega
   have hge:¬ ((l.length:Int) < (l.length:Nat)):=by omega
   go_wp2_with fail;go_ret;exact ⟨rfl,hb.out⟩
end Mr
end
section
open Go.RowKit
namespace Fo
open Mem Tp Maps Tr
attribute [local go_sem] Fl.run_store_float
def repV (vb:Value) (fl:Tm) (vl vm:Value):Value:=.agg #[vb,.int .i64 fl.c,.int .i64 fl.r,vl,vm]
def BM (w:World) (b k:Nat) (D:DataW Unit):Prop:=w.ownsMap Tryz.prog 3 (plainElem (H:=Unit) Tryz.prog 4) b k D
theorem size_le {D:DataW Unit} (ht:Tidy D) (k:Lit) (d:DataW Unit):Maps.size (D.put k d) ≤ Maps.size D + 1:=by
 rw [size_put ht]
 split <;> omega
theorem children_any (vb vl vm:Value) (fl:Tm) (base:List Rw) (log:List Mv) (w:World) (hB:Mem.Rows w vb base) (hL:Mem.Mvs w vl log) (hb1:base.length ≤ 2000) (hl1:log.length ≤ 2000) (hbr:∀ r ∈ base,InR r.ch) (hlr:∀ m ∈ log,InR m.ch) :
  Calls Tryz.prog 43 #[repV vb fl vl vm] w fun e w' => e = .returned (.map (some (w.heap.size + 1))) ∧ (∃ D,(∃ k,BM w' (w.heap.size + 1) k D) ∧ Maps.size D ≤ base.length + log.length) ∧ Below w.heap.size w w':=by
 have hmm:=@run_makeMap Tryz.prog;obtain ⟨a,c,rfl⟩:=hB.len;obtain ⟨a2,c2,rfl⟩:=hL.len;have HB:=hid hB;have HL:=hid hL;have HBr:=hid hbr;have HLr:=hid hlr;clear hB hL hbr hlr;obtain ⟨W0,hW0⟩:∃ W0,w.alloc (.cells #[.slice a base.length c,.int .i64 fl.c,.int .i64 fl.r,.slice a2 log.length c2,vm] 34) = W0:=⟨_,rfl⟩
 have hs0:W0.heap.size = w.heap.size + 1:=by rw [← hW0];simp
 obtain ⟨W1,hW1⟩:∃ W1,W0.alloc (.map #[] 0) = W1:=⟨_,rfl⟩
 have hM0:=hid (show BM W1 (w.heap.size + 1) 0 (.map []) by
  rw [← hW1,← hs0]
  exact World.ownsMap_made _ _ _ _)
 have hbel:=hid (show Below w.heap.size w W1 by rw [← hW1,← hW0];exact ((Below.refl _ _).alloc (Nat.le_refl _) _).alloc (by simp) _);have hg1:=hid (show W1.heap[w.heap.size]? = some (.cells #[.slice a base.length c,.int .i64 fl.c,.int .i64 fl.r,.slice a2 log.length c2,vm] 34 (0,0)) by rw [← hW1,← hW0];exact alloc_at _ (alloc_new w _));have c0:W1.cell? ⟨w.heap.size,0,none⟩ = some (.slice a base.length c):=cell_at hg1.out 0;unfold repV;go_enter Tryz.func43,Tryz.ntmps43;go_wp2_with fail;clear hmm
 go_loopw [12] (fun i wr => ∃ (k n:Nat) (D:DataW Unit),i = .int .i64 k ∧ k ≤ base.length ∧ n ≤ 4000 ∧ Maps.size D ≤ k ∧ n = k ∧ Hid (BM wr (w.heap.size + 1) n D) ∧ Hid (Below w.heap.size w wr) ∧ Hid (wr.heap[w.heap.size]? = some (.cells #[.slice a base.length c,.int .i64 fl.c,.int .i64 fl.r,.slice a2 log.length c2,vm] 34 (0,0)))) (fun i _ => base.length - (intOf i).toNat)
 case atStart => exact ⟨0,0,.map [],rfl,by omega,by omega,Nat.le_refl _,rfl,by first | exact hM0 | (rw [hW1];exact hM0),by first | exact hbel | (rw [hW1];exact hbel),by first | exact hg1 | (rw [hW1];exact hg1)⟩
 case round =>
  obtain ⟨k,n,D,rfl,hk,hn,hsD,hnk,hM,hbel,hg1⟩:=hrel
  by_cases hlt:k < base.length
  ·have hlt':(k:Int) < (base.length:Nat):=by omega
   obtain ⟨x,hx⟩:=some_at hlt;obtain ⟨b,off,rfl⟩:=HB.out.addr (by omega);obtain ⟨q0,q1,q2,q3⟩:=row_at (HB.out.below hbel.out) rfl hx;have r1:=HBr.out x (List.mem_of_getElem? hx);have hk1:=hid (kl_of r1);have hsz:=hbel.out.size;have hgl:=lt_of_block hg1.out;have hszD:=hid (size_le (hM.out.tidy keyI) (kl x.ch) (.lit (.bool true)));have hMl:=hid (hM.out.alloc (.cells #[.int .i64 x.ch,.int .i64 x.pa,.string x.nm,.float .f64 x.rk] 96));have hbx:=hid (hbel.out.alloc hsz (.cells #[.int .i64 x.ch,.int .i64 x.pa,.string x.nm,.float .f64 x.rk] 96))
   have hgx:=hid (alloc_at (.cells #[.int .i64 x.ch,.int .i64 x.pa,.string x.nm,.float .f64 x.rk] 96) hg1.out);clear hx hM hbel hg1
   go_wp2_with (refine wpList_mapUpdate_own _ (by rfl) _ _ _ 98 (by rfl) 3 4 keyI Tryz.underlying98 _ (w.heap.size + 1) n _ (by rfl) hMl.out (by unfold maxLen;omega) _ _ _ (by rfl) (by rfl) hk1.out _ [] (plainElem_bool Tryz.underlying4 true) ?_;intro w1 hown1 hgrow1;have hM1:=hid hown1;have hbf:=hid (hbx.out.grown hgrow1 (by simp;omega) (fun j e => by cases e;omega));have hgf:=hid ((hgrow1.block _ (by simp;omega) (fun e => by have:=Option.some.inj e;omega)).trans hgx.out);clear hown1 hgrow1)
   have hsf:=hszD.out
   go_roundw
   case rel => exact ⟨k + 1,n + 1,_,by go_num,by omega,by omega,by omega,by omega,hM1,hbf,hgf⟩
   case measure => simp [intOf];omega
  ·obtain rfl:k = base.length:=by omega
   have hge:¬ ((base.length:Int) < (base.length:Nat)):=by omega
   have c3:wr.cell? ⟨w.heap.size,3,none⟩ = some (.slice a2 log.length c2):=cell_at hg1.out 3;go_wp2_with fail
   go_loopw [23] (fun i wr => ∃ (k n:Nat) (D:DataW Unit),i = .int .i64 k ∧ k ≤ log.length ∧ n ≤ 4000 ∧ Maps.size D ≤ base.length + k ∧ n = base.length + k ∧ Hid (BM wr (w.heap.size + 1) n D) ∧ Hid (Below w.heap.size w wr) ∧ Hid (wr.heap[w.heap.size]? = some (.cells #[.slice a base.length c,.int .i64 fl.c,.int .i64 fl.r,.slice a2 log.length c2,vm] 34 (0,0)))) (fun i _ => log.length - (intOf i).toNat)
   case atStart => exact ⟨0,n,D,rfl,by omega,by omega,by omega,by omega,hM,hbel,hg1⟩
   case round =>
    obtain ⟨k,n,D,rfl,hk,hn,hsD,hnk,hM,hbel,hg1⟩:=hrel
    by_cases hlt:k < log.length
    ·have hlt':(k:Int) < (log.length:Nat):=by omega
     obtain ⟨x,hx⟩:=some_at hlt;obtain ⟨b,off,rfl⟩:=HL.out.addr (by omega);obtain ⟨q0,q1,q2,q3,q4,q5⟩:=mov_at (HL.out.below hbel.out) rfl hx;have r1:=HLr.out x (List.mem_of_getElem? hx);have hk1:=hid (kl_of r1);have hsz:=hbel.out.size;have hgl:=lt_of_block hg1.out;have hszD:=hid (size_le (hM.out.tidy keyI) (kl x.ch) (.lit (.bool true)));have hMl:=hid (hM.out.alloc (.cells #[.int .i64 x.t.c,.int .i64 x.t.r,.int .i64 x.pa,.int .i64 x.ch,.string x.nm,.float .f64 x.rk] 49))
     have hbx:=hid (hbel.out.alloc hsz (.cells #[.int .i64 x.t.c,.int .i64 x.t.r,.int .i64 x.pa,.int .i64 x.ch,.string x.nm,.float .f64 x.rk] 49));have hgx:=hid (alloc_at (.cells #[.int .i64 x.t.c,.int .i64 x.t.r,.int .i64 x.pa,.int .i64 x.ch,.string x.nm,.float .f64 x.rk] 49) hg1.out);clear hx hM hbel hg1
     go_wp2_with (refine wpList_mapUpdate_own _ (by rfl) _ _ _ 98 (by rfl) 3 4 keyI Tryz.underlying98 _ (w.heap.size + 1) n _ (by rfl) hMl.out (by unfold maxLen;omega) _ _ _ (by rfl) (by rfl) hk1.out _ [] (plainElem_bool Tryz.underlying4 true) ?_;intro w1 hown1 hgrow1;have hM1:=hid hown1;have hbf:=hid (hbx.out.grown hgrow1 (by simp;omega) (fun j e => by cases e;omega));have hgf:=hid ((hgrow1.block _ (by simp;omega) (fun e => by have:=Option.some.inj e;omega)).trans hgx.out);clear hown1 hgrow1)
     have hsf:=hszD.out
     go_roundw
     case rel => exact ⟨k + 1,n + 1,_,by go_num,by omega,by omega,by omega,by omega,hM1,hbf,hgf⟩
     case measure => simp [intOf];omega
    ·obtain rfl:k = log.length:=by omega
     have hge:¬ ((log.length:Int) < (log.length:Nat)):=by omega
     go_wp2_with fail;go_ret;exact ⟨rfl,⟨D,⟨n,hM.out⟩,by omega⟩,hbel.out⟩
theorem known_any (v:Value) (l:List Mk) (t:Tm) (w:World) (hS:Mem.Mks w v l) (hl:l.length ≤ 5000) :
  Calls Tryz.prog 37 #[v,tmV t] w fun e w' => e = .returned (.bool (decide (knownT l t))) ∧ Below w.heap.size w w':=by
 have HG:=hid (fun (W:World) (h:Mem.Mks W v l) => Mr.get_any v l t.r W h hl);have hb0:=(Below.refl w.heap.size w).alloc (Nat.le_refl _) (.cells #[.int .i64 t.c,.int .i64 t.r] 24)
 have hsz:(w.alloc (.cells #[.int .i64 t.c,.int .i64 t.r] 24)).heap.size = w.heap.size + 1:=by simp
 have hg0:=alloc_new w (.cells #[.int .i64 t.c,.int .i64 t.r] 24);have HS:=hid (hS.below hb0);obtain ⟨W,hW⟩:∃ W,W = w.alloc (.cells #[.int .i64 t.c,.int .i64 t.r] 24):=⟨_,rfl⟩;rw [← hW] at hb0 hsz hg0 HS;have c0:W.cell? ⟨w.heap.size,0,none⟩ = some (.int .i64 t.c):=cell_at hg0 0;have c1:W.cell? ⟨w.heap.size,1,none⟩ = some (.int .i64 t.r):=cell_at hg0 1
 have cS:∀ W2:World,Below W.heap.size W W2 → W2.cell? ⟨w.heap.size,0,none⟩ = some (.int .i64 t.c) ∧ W2.cell? ⟨w.heap.size,1,none⟩ = some (.int .i64 t.r) ∧ Below W.heap.size W W2:=fun W2 h =>
  ⟨(h.cell (p:=⟨w.heap.size,0,none⟩) (by rw [hsz];show w.heap.size < _;omega)).trans c0,(h.cell (p:=⟨w.heap.size,1,none⟩) (by rw [hsz];show w.heap.size < _;omega)).trans c1,h⟩
 replace hb0:=hid hb0;replace hsz:=hid hsz;replace cS:=hid cS;have hW':=hid hW;clear hS hg0 hW;obtain ⟨q,hq⟩:∃ q,q = decide (knownT l t):=⟨_,rfl⟩;rw [← hq];replace hq:=hid hq;unfold tmV;go_enter Tryz.func37,Tryz.ntmps37
 go_upto_region 1 with fail
 rw [← hW'.out];clear hW'
 by_cases h1:1 ≤ t.c
 ·by_cases h2:t.c ≤ 4611686018427387903
  ·by_cases h3:1 ≤ t.r
   ·by_cases h4:t.r ≤ 255
    ·have d1:=decide_eq_true h1
     have d2:=decide_eq_true h2;have d3:=decide_eq_true h3;have d4:=decide_eq_true h4;have hr:Hid (q = decide (t.c ≤ getM l t.r)):=hid (by rw [hq.out,decide_eq_decide];unfold knownT okT;constructor;(intro h;exact h.2);(intro h;exact ⟨⟨h1,h2,h3,h4⟩,h⟩));go_wp2_with fail
     go_region_held3 (fun W2:World => W2.cell? ⟨w.heap.size,0,none⟩ = some (.int .i64 t.c) ∧ W2.cell? ⟨w.heap.size,1,none⟩ = some (.int .i64 t.r) ∧ Below W.heap.size W W2) (first | assumption | exact cS.out _ (Below.refl _ _) | exact cS.out _ (Below.refl _ _).drew | exact cS.out _ hbc.out) ((go_at_call 74;(refine (HG.out _ (by first | exact HS.out.below (Below.refl _ _).drew | exact HS.out)).mono ?_);rintro e w3 ⟨rfl,hbc⟩;first | (replace hbc:=hid ((Below.refl _ W).drew.trans hbc)) | (replace hbc:=hid hbc)))
     all_goals
      have hbf:=hid (hb0.out.trans (hbc.out.mono (by show w.heap.size ≤ W.heap.size;rw [hsz.out];omega)));clear hbc;go_wp2_with fail;go_ret;exact ⟨by rw [hr.out];rfl,hbf.out⟩
    ·have d1:=decide_eq_true h1
     have d2:=decide_eq_true h2;have d3:=decide_eq_true h3;have d4:=decide_eq_false h4;have hr:Hid (q = false):=hid (hq.out.trans (decide_eq_false (fun h => by unfold knownT okT at h;omega)));go_wp2_with fail;go_quiet (fail);go_wp2_with fail;go_ret;exact ⟨by rw [hr.out];rfl,⟨hb0.out.os,hb0.out.tape,hb0.out.output,hb0.out.size,hb0.out.block⟩⟩
   ·have d1:=decide_eq_true h1
    have d2:=decide_eq_true h2;have d3:=decide_eq_false h3;have hr:Hid (q = false):=hid (hq.out.trans (decide_eq_false (fun h => by unfold knownT okT at h;omega)));go_wp2_with fail;go_quiet (fail);go_wp2_with fail;go_ret;exact ⟨by rw [hr.out];rfl,⟨hb0.out.os,hb0.out.tape,hb0.out.output,hb0.out.size,hb0.out.block⟩⟩
  ·have d1:=decide_eq_true h1
   have d2:=decide_eq_false h2;have hr:Hid (q = false):=hid (hq.out.trans (decide_eq_false (fun h => by unfold knownT okT at h;omega)));go_wp2_with fail;go_quiet (fail);go_wp2_with fail;go_ret;exact ⟨by rw [hr.out];rfl,⟨hb0.out.os,hb0.out.tape,hb0.out.output,hb0.out.size,hb0.out.block⟩⟩
 ·have d1:=decide_eq_false h1
  have hr:Hid (q = false):=hid (hq.out.trans (decide_eq_false (fun h => by unfold knownT okT at h;omega)));go_wp2_with fail;go_quiet (fail);go_wp2_with fail;go_ret;exact ⟨by rw [hr.out];rfl,⟨hb0.out.os,hb0.out.tape,hb0.out.output,hb0.out.size,hb0.out.block⟩⟩
end Fo
end
section
open Go.RowKit
namespace Fo
open Mem Tp Tr
theorem tree_any (vb vl vm:Value) (fl:Tm) (l:List Rw) (ms:List Mv) (w:World) (hB:Mem.Rows w vb l) (hL:Mem.Mvs w vl ms) (hl:l.length ≤ 2000) (hm:ms.length ≤ 2000) (hk:Fd.OkT l) (hr:∀ m ∈ ms,InR m.ch ∧ InR m.pa) :
  Calls Tryz.prog 16 #[repV vb fl vl vm] w fun e w' => (∃ v',e = .returned v' ∧ Mem.Rows w' v' (foldM l ms)) ∧ Below w.heap.size w w':=by
 have hb0:=(Below.refl w.heap.size w).alloc (Nat.le_refl _) (.cells #[vb,.int .i64 fl.c,.int .i64 fl.r,vl,vm] 34);have HA:=hid (Fd.all_any vb vl l ms _ (hB.below hb0) (hL.below hb0) hl hm hk hr);replace hb0:=hid hb0;obtain ⟨a,c,rfl⟩:=hB.len;obtain ⟨a2,c2,rfl⟩:=hL.len;clear hB hL;unfold repV;go_enter Tryz.func16,Tryz.ntmps16;go_wp2_with fail;refine HA.out.mono ?_
 rintro e w2 ⟨⟨v2,rfl,hR,-⟩,hb2⟩;have hb3:=hid (hb0.out.trans (hb2.mono (by simp)));replace hR:=hid hR;clear hb2 HA;go_wp2_with fail;go_ret;exact ⟨⟨_,rfl,hR.out⟩,hb3.out⟩
end Fo
end
section
open Go.RowKit
namespace Mo
open Mem Tp
attribute [local go_sem] Fl.run_store_float
theorem enterIs (args:Array Value) (w:World):(callFunc 56 args).run Tryz.prog w = .ok (.enter 56 args) w:=by simp [go_sem]
theorem enterBef (args:Array Value) (w:World):(callFunc 57 args).run Tryz.prog w = .ok (.enter 57 args) w:=by simp [go_sem]
theorem has_idx (l:List Mv) (t:Tm):hasT l t = decide (l.findIdx (fun x => x.t == t) < l.length):=by
 unfold hasT;rw [Bool.eq_iff_iff,List.any_eq_true,decide_eq_true_iff,List.findIdx_lt_length]
theorem insert_any (v:Value) (l:List Mv) (m:Mv) (w:World) (hS:Mem.Mvs w v l) (hl:l.length ≤ 4000) :
  Calls Tryz.prog 27 #[v,movV m] w fun e w' => (∃ v' at_,e = .returned (.tuple #[v',.int .i64 at_,.bool (!hasT l m.t)]) ∧ Mem.Mvs w' v' (insM l m) ∧ Near2 w w' v v') ∧ Below w.heap.size w w':=by
 have HS:=hid (fun (W:World) (h:Mem.Mvs W v l) => seek_any 56 v m.t l (fun x => x.t == m.t) W h (by omega) (fun x w1 => enterIs _ w1) (fun x w1 => is_any m.t x w1));have HB:=hid (fun (W:World) (h:Mem.Mvs W v l) => seek_any 57 v m.t l (fun x => bef m.t x.t) W h (by omega) (fun x w1 => enterBef _ w1) (fun x w1 => before_any m.t x w1));have HC:=hid (fun W (h:Mem.Mvs W v l) => cloneMov_any v l.length (l.flatMap movC) W h (flat_length movC_len l) (by omega) (flat_ones movC_one l))
 have HN:=hid (fun (W:World) (v:Value) (i B vb vc:Nat) h1 h2 h3 h4 h5 => insertMov_any v l.length i (l.flatMap movC) (movC m) B vb vc W h1 h2 h3 (by omega) (movC_len m) (movC_one m) (flat_ones movC_one l) h4 h5);have hh:=has_idx l m.t;unfold tmV at HS HB;obtain ⟨a,c,hv⟩:=hS.len;replace hv:=hid hv;unfold movV;have hb0:=((Below.refl w.heap.size w).alloc (Nat.le_refl _) (.cells #[.int .i64 m.t.c,.int .i64 m.t.r,.int .i64 m.pa,.int .i64 m.ch,.string m.nm,.float .f64 m.rk] 49)).alloc (by simp) (.cells #[.int .i64 m.t.c,.int .i64 m.t.r] 113)
 have hg0:=alloc_at (.cells #[.int .i64 m.t.c,.int .i64 m.t.r] 113) (alloc_new w (.cells #[.int .i64 m.t.c,.int .i64 m.t.r,.int .i64 m.pa,.int .i64 m.ch,.string m.nm,.float .f64 m.rk] 49));have hg1:((w.alloc (.cells #[.int .i64 m.t.c,.int .i64 m.t.r,.int .i64 m.pa,.int .i64 m.ch,.string m.nm,.float .f64 m.rk] 49)).alloc (.cells #[.int .i64 m.t.c,.int .i64 m.t.r] 113)).heap[w.heap.size + 1]? = some (.cells #[.int .i64 m.t.c,.int .i64 m.t.r] 113):=alloc_new_at _ (by simp)
 have hsz:((w.alloc (.cells #[.int .i64 m.t.c,.int .i64 m.t.r,.int .i64 m.pa,.int .i64 m.ch,.string m.nm,.float .f64 m.rk] 49)).alloc (.cells #[.int .i64 m.t.c,.int .i64 m.t.r] 113)).heap.size = w.heap.size + 1 + 1:=by simp
 have hS0:=hid (hS.below hb0);replace hb0:=hid hb0;replace hg0:=hid hg0;replace hg1:=hid hg1;replace hsz:=hid hsz;clear hS;go_enter Tryz.func27,Tryz.ntmps27;go_wp2_with fail;generalize (w.alloc (.cells #[.int .i64 m.t.c,.int .i64 m.t.r,.int .i64 m.pa,.int .i64 m.ch,.string m.nm,.float .f64 m.rk] 49)).alloc (.cells #[.int .i64 m.t.c,.int .i64 m.t.r] 113) = W0 at *;refine (HS.out W0 hS0.out).mono ?_
 rintro e w1 ⟨rfl,hb1⟩;have hbb:=hid (hb0.out.trans (hb1.mono (by rw [hsz.out];omega)))
 have hs1:w.heap.size + 1 + 1 ≤ w1.heap.size:=by have:=hb1.size;rw [hsz.out] at this;exact this
 have hS1:=hid (hS0.out.below hb1);have hk1:=hid (below_at hb1 hg0.out (by rw [hsz.out];omega));have hk2:=hid (below_at hb1 hg1.out (by rw [hsz.out];omega));have c0:w1.cell? ⟨w.heap.size + 1,0,none⟩ = some (.int .i64 m.t.c):=cell_at hk2.out 0;have c1:w1.cell? ⟨w.heap.size + 1,1,none⟩ = some (.int .i64 m.t.r):=cell_at hk2.out 1;clear hb0 hg0 hg1 hS0 hb1;replace hv:=hv.out;subst hv
 by_cases hf:l.findIdx (fun x => x.t == m.t) < l.length
 ·rw [decide_eq_true hf] at hh
  have hin:Hid (insM l m = l):=hid (by unfold insM;rw [hh,if_pos rfl]);replace hh:=hid hh;generalize l.findIdx (fun x => x.t == m.t) = k at *
  have hfi:(k:Int) < (l.length:Nat):=by omega
  go_wp2_with fail
  go_ret3
  refine ⟨⟨_,_,by rw [hh.out];rfl,by rw [hin.out];exact hS1.out,fun k e => .inl e⟩,hbb.out⟩
 ·rw [decide_eq_false hf] at hh
  have hin:Hid (insM l m = l.take (l.findIdx (fun x => bef m.t x.t)) ++ m :: l.drop (l.findIdx (fun x => bef m.t x.t))):=hid (by unfold insM insL;rw [hh,if_neg (by decide)]);replace hh:=hid hh;generalize l.findIdx (fun x => x.t == m.t) = k at *
  have hfi:¬ ((k:Int) < (l.length:Nat)):=by omega
  go_wp2_with fail;refine (HB.out _ hS1.out).mono ?_
  rintro e w2 ⟨rfl,hb2⟩;replace hbb:=hid (hbb.out.trans (hb2.mono (by omega)));have hs2:=hb2.size;have hS2:=hid (hS1.out.below hb2);have hk3:=hid (below_at hb2 hk1.out (by omega));clear hb2 hS1 hk1 hk2 c0 c1 hf;have hKl:l.findIdx (fun x => bef m.t x.t) ≤ l.length:=List.findIdx_le_length;generalize l.findIdx (fun x => bef m.t x.t) = j at *;have c0:w2.cell? ⟨w.heap.size,0,none⟩ = some (.int .i64 m.t.c):=cell_at hk3.out 0;have c1:w2.cell? ⟨w.heap.size,1,none⟩ = some (.int .i64 m.t.r):=cell_at hk3.out 1
  have c2:w2.cell? ⟨w.heap.size,2,none⟩ = some (.int .i64 m.pa):=cell_at hk3.out 2;have c3:w2.cell? ⟨w.heap.size,3,none⟩ = some (.int .i64 m.ch):=cell_at hk3.out 3;have c4:w2.cell? ⟨w.heap.size,4,none⟩ = some (.string m.nm):=cell_at hk3.out 4;have c5:w2.cell? ⟨w.heap.size,5,none⟩ = some (.float .f64 m.rk):=cell_at hk3.out 5;go_wp2_with fail
  have cS:∀ W:World,W.heap[w.heap.size]? = some (.cells #[.int .i64 m.t.c,.int .i64 m.t.r,.int .i64 m.pa,.int .i64 m.ch,.string m.nm,.float .f64 m.rk] 49) → (W.cell? ⟨w.heap.size,0,none⟩ = some (.int .i64 m.t.c) ∧ W.cell? ⟨w.heap.size,1,none⟩ = some (.int .i64 m.t.r) ∧ W.cell? ⟨w.heap.size,2,none⟩ = some (.int .i64 m.pa) ∧ W.cell? ⟨w.heap.size,3,none⟩ = some (.int .i64 m.ch) ∧ W.cell? ⟨w.heap.size,4,none⟩ = some (.string m.nm) ∧ W.cell? ⟨w.heap.size,5,none⟩ = some (.float .f64 m.rk)):=fun W h => ⟨cell_at h 0,cell_at h 1,cell_at h 2,cell_at h 3,cell_at h 4,cell_at h 5⟩
  replace cS:=hid cS
  go_region_held3 (fun W:World => (W.cell? ⟨w.heap.size,0,none⟩ = some (.int .i64 m.t.c) ∧ W.cell? ⟨w.heap.size,1,none⟩ = some (.int .i64 m.t.r) ∧ W.cell? ⟨w.heap.size,2,none⟩ = some (.int .i64 m.pa) ∧ W.cell? ⟨w.heap.size,3,none⟩ = some (.int .i64 m.ch) ∧ W.cell? ⟨w.heap.size,4,none⟩ = some (.string m.nm) ∧ W.cell? ⟨w.heap.size,5,none⟩ = some (.float .f64 m.rk))) (first | assumption | exact cS.out _ hk3.out | exact cS.out _ hk5.out | exact cS.out _ hk4.out | exact cS.out _ (alloc_at _ hk3.out) | exact cS.out _ (alloc_at _ hk4.out)) (first
   | (go_at_call 58;(refine (HN.out _ v3 j (w.heap.size + 1 + 1) _ 1 (by first | exact own_mono (World.ownsRow.alloc hO3.out _) (by first | omega | (simp;omega)) | exact own_mono hO3.out (by first | omega | (simp;omega))) (by first | omega | (simp;omega)) hKl (by first | exact alloc_new _ _ | exact below_at hb3.out (alloc_new _ _) (by simp)) (fun g c e => by subst e;have h9:=hO3.out.lt g rfl;(try simp at h9);omega)).mono ?_);rintro e w4 ⟨v4,rfl,hO4,hb4⟩;have hk5:=hid (below_at hb4 (by first | exact hk4.out | exact alloc_at _ hk4.out) (by omega));replace hO4:=hid hO4;replace hb4:=hid hb4)
   | (go_at_call 54;(refine (HC.out _ (by first | exact hS2.out | exact Sl.below hS2.out (((Below.refl _ _).alloc (Nat.le_refl _) _).drew))).mono ?_);rintro e w3 ⟨v3,rfl,hO3,hb3⟩;have hk4:=hid (below_at hb3 (by first | exact hk3.out | exact alloc_at _ hk3.out) (by first | omega | (simp;omega)));have hs3:=hb3.size;(try simp at hs3);replace hO3:=hid hO3;replace hb3:=hid hb3))
  all_goals
   have hbf:Hid (Below w.heap.size w w4):=hid (by first
    | exact ((hbb.out.drew.trans (hb3.out.mono (by show w.heap.size ≤ w2.heap.size;omega))).alloc (by omega) _).trans (hb4.out.mono (by omega))
    | exact (((hbb.out.alloc (by omega) _).drew).trans (hb3.out.mono (by show w.heap.size ≤ (w2.alloc _).heap.size;simp;omega))).trans (hb4.out.mono (by omega)))
   have hf:Hid (Mem.Mvs w4 v4 (insM l m)):=hid (by
    rw [hin.out];unfold Mem.Mvs;rw [List.length_append,List.length_cons,List.length_take,List.length_drop,List.flatMap_append,List.flatMap_cons,Tr.flat_take movC_len,Tr.flat_drop movC_len,← List.append_assoc,show min j l.length + (l.length - j + 1) = l.length + 1 by omega]
    exact own_sl hO4.out)
   have hnr:Hid (∀ k,v4.ownBlock = some k → w.heap.size ≤ k ∧ k < w4.heap.size):=hid (fun k e => by have:=hO4.out.lt k e;exact ⟨by omega,this.2⟩);clear hO3 hO4 hb3 hb4;go_wp2_with fail
   go_ret3
   exact ⟨⟨_,_,by rw [hh.out];rfl,hf.out,fun k e => .inr (hnr.out k e)⟩,hbf.out⟩
end Mo
end
section
open Go.RowKit
namespace Mo
open Mem Tp
attribute [local go_sem] Fl.run_store_float
theorem since_snoc (l:List Mv) (x:Mv) (t:Tm):since (l ++ [x]) t = if bef t x.t = true then since l t ++ [x] else since l t:=by
 unfold since;rw [List.filter_append]
 cases h:bef t x.t <;> simp [h]
theorem since_any (v:Value) (l:List Mv) (t:Tm) (w:World) (hS:Mem.Mvs w v l) (hl:l.length ≤ 4000) :
  Calls Tryz.prog 39 #[v,tmV t] w fun e w' => (∃ v',e = .returned v' ∧ w'.ownsRow (w.heap.size + 1) 49 6 v' (since l t).length ((since l t).flatMap movC)) ∧ Below w.heap.size w w':=by
 obtain ⟨i0,hi,hz0,hz1,hz2⟩:=info_parts infoMov;obtain ⟨a,c,rfl⟩:=hS.len;have HS:=hid hS;have HB:=hid (fun x W => before_any t x W);clear hS;unfold tmV at HB ⊢;have hb0:=(Below.refl w.heap.size w).alloc (Nat.le_refl _) (.cells #[.int .i64 t.c,.int .i64 t.r] 24);have hg0:=alloc_new w (.cells #[.int .i64 t.c,.int .i64 t.r] 24)
 have hsz:(w.alloc (.cells #[.int .i64 t.c,.int .i64 t.r] 24)).heap.size = w.heap.size + 1:=by simp
 replace hb0:=hid hb0;replace hg0:=hid hg0;replace hsz:=hid hsz;go_enter Tryz.func39,Tryz.ntmps39;go_wp2_with fail;generalize w.alloc (.cells #[.int .i64 t.c,.int .i64 t.r] 24) = W0 at *
 go_loopw [5,10] (fun o i wr => ∃ k:Nat,i = .int .i64 k ∧ k ≤ l.length ∧ Hid (wr.ownsRow (w.heap.size + 1) 49 6 o (since (l.take k) t).length ((since (l.take k) t).flatMap movC)) ∧ Hid (Below w.heap.size w wr) ∧ Hid (wr.heap[w.heap.size]? = some (.cells #[.int .i64 t.c,.int .i64 t.r] 24 (0,0)))) (fun _ i _ => l.length - (intOf i).toNat)
 case atStart => exact ⟨0,rfl,by omega,hid (World.ownsRow_nil _ _ _ _),hb0,hg0⟩
 case round =>
  clear hb0 hg0 hsz;obtain ⟨k,rfl,hk,hO,hb,hg⟩:=hrel
  by_cases hlt:k < l.length
  ·have hlt':(k:Int) < (l.length:Nat):=by omega
   obtain ⟨x,hx⟩:=some_at hlt;obtain ⟨b,off,rfl⟩:=HS.out.addr (by omega);have hS2:=HS.out.below hb.out;obtain ⟨q0,q1,q2,q3,q4,q5⟩:=mov_at hS2 rfl hx;have hwl:=lt_of_block hg.out;have hsn:Hid (since (l.take (k + 1)) t = if bef t x.t = true then since (l.take k) t ++ [x] else since (l.take k) t):=hid (by rw [take_snoc hx,since_snoc])
   have hsl:(since (l.take k) t).length ≤ 4000:=by
    have:=List.length_filter_le (fun m => bef t m.t) (l.take k);rw [List.length_take] at this;unfold since;omega
   have hB:=hid (fun W => HB.out x W);unfold movV at hB
   have hgl:∀ y,(wr.alloc y).heap[w.heap.size]? = some (.cells #[.int .i64 t.c,.int .i64 t.r] 24 (0,0)):=fun y => alloc_at y hg.out
   have c0:=fun y => cell_at (hgl y) 0
   have c1:=fun y => cell_at (hgl y) 1
   simp only [List.getElem?_toArray,List.getElem?_cons_zero,List.getElem?_cons_succ] at c0 c1;have hbx:=hid (hb.out.alloc (Nat.le_of_lt hwl) (.cells #[.int .i64 x.t.c,.int .i64 x.t.r,.int .i64 x.pa,.int .i64 x.ch,.string x.nm,.float .f64 x.rk] 49));have hOx:=hid (World.ownsRow.alloc hO.out (.cells #[.int .i64 x.t.c,.int .i64 x.t.r,.int .i64 x.pa,.int .i64 x.ch,.string x.nm,.float .f64 x.rk] 49));have hxx:=hid (alloc_new wr (.cells #[.int .i64 x.t.c,.int .i64 x.t.r,.int .i64 x.pa,.int .i64 x.ch,.string x.nm,.float .f64 x.rk] 49));replace hgl:=hid hgl
   generalize since (l.take k) t = acc at *;clear hS2 hx hO;go_wp2_with fail;refine (hB.out _).mono ?_
   rintro e w2 ⟨rfl,hb2⟩;have hb3:=hid (hbx.out.trans (hb2.mono hbx.out.size));have hg2:=hid (below_at hb2 (hgl.out _) (by simp;omega));have hO2:=hid (own_below hOx.out hb2);have hx2:=hid (below_at hb2 hxx.out (by simp));have hs2:=hb2.size;simp at hs2;clear hb2 hgl c0 c1 hxx hOx;have e0:w2.cell? ⟨wr.heap.size,0,none⟩ = some (.int .i64 x.t.c):=cell_at hx2.out 0;have e1:w2.cell? ⟨wr.heap.size,1,none⟩ = some (.int .i64 x.t.r):=cell_at hx2.out 1;have e2:w2.cell? ⟨wr.heap.size,2,none⟩ = some (.int .i64 x.pa):=cell_at hx2.out 2
   have e3:w2.cell? ⟨wr.heap.size,3,none⟩ = some (.int .i64 x.ch):=cell_at hx2.out 3;have e4:w2.cell? ⟨wr.heap.size,4,none⟩ = some (.string x.nm):=cell_at hx2.out 4;have e5:w2.cell? ⟨wr.heap.size,5,none⟩ = some (.float .f64 x.rk):=cell_at hx2.out 5;have hlo:=hid hO2.out.lt
   by_cases hp:bef t x.t = true
   ·have hr:Hid (since (l.take (k + 1)) t = acc ++ [x]):=hid (by rw [hsn.out,if_pos hp])
    rw [hp];clear hp hsn
    go_wp2_with (at_builtin;refine wpList_append_src (by rfl) _ _ 25 (by rfl) (w.heap.size + 1) 49 i0 _ 6 56 Tryz.underlying25 hi hz0 hz1 hz2 rfl (by decide) _ acc.length (acc.flatMap movC) (by rfl) (World.ownsRow.alloc hO2.out _) _ 1 (movC x) (by rfl) (movC_len x) (src_new (alloc_new w2 _) _) (movC_one x) (by unfold maxLen;omega) (by omega) (by simp;omega) ?_;intro v5 w5 hown hgrow;replace hown:=hid hown;replace hgrow:=hid hgrow)
    have hO5:Hid (w5.ownsRow (w.heap.size + 1) 49 6 v5 (since (l.take (k + 1)) t).length ((since (l.take (k + 1)) t).flatMap movC)):=hid (by rw [hr.out,List.length_append,List.length_singleton,flat_snoc];exact hown.out);have hb5:=hid ((hb3.out.alloc (by omega) (.cells #[.int .i64 x.t.c,.int .i64 x.t.r,.int .i64 x.pa,.int .i64 x.ch,.string x.nm,.float .f64 x.rk] 49)).grown hgrow.out (by simp;omega) (fun j e => by have:=(hlo.out _ e).1;omega))
    have hg5:Hid (w5.heap[w.heap.size]? = some (.cells #[.int .i64 t.c,.int .i64 t.r] 24 (0,0))):=hid ((hgrow.out.block _ (by simp;omega) (fun e => by have:=(hlo.out _ e.symm).1;omega)).trans (alloc_at _ hg2.out))
    go_roundw
    case rel => exact ⟨k + 1,by go_num,by omega,hO5,hb5,hg5⟩
    case measure => simp [intOf];omega
   ·have hp':bef t x.t = false:=by simpa using hp
    have hr:Hid (since (l.take (k + 1)) t = acc):=hid (by rw [hsn.out,if_neg hp]);rw [hp'];clear hp hp' hsn;go_wp2_with fail
    go_roundw
    case rel => exact ⟨k + 1,by go_num,by omega,by rw [hr.out];exact hO2,hb3,hg2⟩
    case measure => simp [intOf];omega
  ·obtain rfl:k = l.length:=by omega
   have hge:¬ ((l.length:Int) < (l.length:Nat)):=by omega
   rw [List.take_length] at hO;go_wp2_with fail;go_ret;exact ⟨⟨_,rfl,hO.out⟩,hb.out⟩
theorem may1_any (m:Mv) (w:World) (hs:m.nm.size ≤ 100000) :
  Calls Tryz.prog 119 #[movV m] w fun e w' => e = .returned (.bool (!oneM m)) ∧ Below w.heap.size w w':=by
 have HO:=hid (fun W => one_any m W hs);have hb:=hid ((Below.refl w.heap.size w).alloc (Nat.le_refl _) (.cells #[.int .i64 m.t.c,.int .i64 m.t.r,.int .i64 m.pa,.int .i64 m.ch,.string m.nm,.float .f64 m.rk] 49));unfold movV at HO ⊢;generalize oneM m = q at *;go_enter Tryz.func119,Tryz.ntmps119;go_wp2_with fail;refine (HO.out _).mono ?_
 rintro e w2 ⟨rfl,hb2⟩;have hb3:=hid (hb.out.trans (hb2.mono (by simp)));clear hb2;go_wp2_with fail;go_ret;exact ⟨rfl,hb3.out⟩
theorem enterMay (args:Array Value) (w:World):(callFunc 119 args).run Tryz.prog w = .ok (.enter 119 args) w:=by simp [go_sem]
theorem may_ok (v:Value) (l:List Mv) (w:World) (hS:Mem.Mvs w v l) (hl:l.length ≤ 2000) (hn:∀ x ∈ l,oneM x = true) (hn2:∀ x ∈ l,x.nm.size ≤ 100000)
  (hso:∀ (j:Nat) (a b:Mv),l[j]? = some a → l[j + 1]? = some b → bef a.t b.t = true) :
  Calls Tryz.prog 67 #[v] w fun e w' => e = .returned (.bool true) ∧ Below w.heap.size w w':=by
 have HC:=hid (fun (W:World) (h:Mem.Mvs W v l) => containsMov_any 119 #[] v l (fun x => !oneM x) W h (by omega) (fun x w1 => enterMay _ w1) (fun x w1 hx _ => may1_any x w1 (hn2 x hx)));have hno:l.any (fun x => !oneM x) = false:=List.any_eq_false.2 (fun x hx => by simp [hn x hx]);rw [hno] at HC;have HB:=hid (fun a b c d W => Fl.before_any a b c d W);have HQ:=hid hso;obtain ⟨a,c,rfl⟩:=hS.len;have HS:=hid hS
 have hl2:(l.length:Int) ≤ 2000:=by omega
 clear hS hso hn hn2 hno;go_enter Tryz.func67,Tryz.ntmps67;go_wp2_with fail
 go_loopw [3] (fun i wr => ∃ k:Nat,i = .int .i64 (k + 1:Nat) ∧ (k ≤ l.length) ∧ Hid (Below w.heap.size w wr)) (fun i _ => l.length + 1 - (intOf i).toNat)
 case atStart => exact ⟨0,rfl,by omega,hid (Below.refl _ _)⟩
 case round =>
  obtain ⟨k,rfl,hk,hb⟩:=hrel
  by_cases hlt:k + 1 < l.length
  ·have hlt':((k + 1:Nat):Int) < (l.length:Nat):=by omega
   have hlt2:(k:Int) + 1 < (l.length:Nat):=by omega
   obtain ⟨x,hx⟩:=some_at (show k < l.length by omega);obtain ⟨y,hy⟩:=some_at hlt;obtain ⟨b,off,rfl⟩:=HS.out.addr (by omega);have hS2:=HS.out.below hb.out;obtain ⟨q0,q1,-⟩:=mov_at hS2 rfl hx;obtain ⟨p0,p1,-⟩:=mov_at hS2 rfl hy;have hbf:=HQ.out k x y hx hy;have hB:=HB.out x.t.c x.t.r y.t.c y.t.r;rw [ahead_bef,hbf] at hB;replace hB:=hid hB
   have hw1:IntKind.i64.wrap ((k:Int) + 1 - 1) = (k:Int):=by rw [IntKind.wrap_i64];omega
   have hw2:IntKind.i64.wrap ((k:Int) + 1 + 1) = (k:Int) + 1 + 1:=by rw [IntKind.wrap_i64];omega
   have hw3:IntKind.i64.wrap (k:Int) = (k:Int):=by rw [IntKind.wrap_i64];omega
   have hk0:(0:Int) ≤ (k:Int):=by omega
   have hk1:(k:Int) < (l.length:Nat):=by omega
   have hk2:(0:Int) ≤ (k:Int) + 1:=by omega
   have hk3:((k:Int) + 1).toNat = k + 1:=by omega
   have hbl:=sl_lt HS.out (by omega)
   have cS:∀ W:World,Below w.heap.size w W → (W.cell? ⟨b,off + k * 6,none⟩ = some (.int .i64 x.t.c) ∧ W.cell? ⟨b,off + k * 6 + 1,none⟩ = some (.int .i64 x.t.r) ∧ W.cell? ⟨b,off + (k + 1) * 6,none⟩ = some (.int .i64 y.t.c) ∧ W.cell? ⟨b,off + (k + 1) * 6 + 1,none⟩ = some (.int .i64 y.t.r) ∧ Below w.heap.size w W):=fun W h => by
    have hS3:=HS.out.below h;obtain ⟨q0,q1,-⟩:=mov_at hS3 rfl hx;obtain ⟨p0,p1,-⟩:=mov_at hS3 rfl hy;exact ⟨q0,q1,p0,p1,h⟩
   replace cS:=hid cS;clear hx hy hbf hS2 q0 q1 p0 p1;go_wp2_with fail
   go_region_held3 (fun W:World => (W.cell? ⟨b,off + k * 6,none⟩ = some (.int .i64 x.t.c) ∧ W.cell? ⟨b,off + k * 6 + 1,none⟩ = some (.int .i64 x.t.r) ∧ W.cell? ⟨b,off + (k + 1) * 6,none⟩ = some (.int .i64 y.t.c) ∧ W.cell? ⟨b,off + (k + 1) * 6 + 1,none⟩ = some (.int .i64 y.t.r) ∧ Below w.heap.size w W)) (first | assumption | exact cS.out _ hb.out | exact cS.out _ hb.out.drew | exact cS.out _ (hb.out.drew.trans (hb3.out.mono hb.out.size))) (first
    | (go_at_call 38;(refine (hB.out _).mono ?_);rintro e w3 ⟨rfl,hb3⟩;replace hb3:=hid hb3))
   all_goals
    have hbn:=hid (hb.out.drew.trans (hb3.out.mono hb.out.size));clear hb3;go_wp2_with fail
    go_roundw
    case rel => exact ⟨k + 1,by go_num,by omega,hbn⟩
    case measure => simp [intOf];omega
  ·have hge:¬ (((k + 1:Nat):Int) < (l.length:Nat)):=by omega
   have hge2:¬ ((k:Int) + 1 < (l.length:Nat)):=by omega
   have hCl:=hid (HC.out _ (HS.out.below hb.out));clear HC;go_wp2_with fail;refine hCl.out.mono ?_
   rintro e w3 ⟨rfl,hb3⟩;replace hb3:=hid (hb.out.trans (hb3.mono hb.out.size));go_wp2_with fail;go_ret;exact ⟨rfl,hb3.out⟩
end Mo
end
section
open Go.RowKit
namespace Fo
open Mem Tp Tr Mo
structure WfR (r:Rp):Prop where
 rise:r.base.Pairwise (fun a b => a.ch < b.ch)
 one:∀ x ∈ r.base,oneR x = true
 acyc:∀ x ∈ r.base,above r.base x.ch x.ch = false
 lrise:r.log.Pairwise (fun a b => bef a.t b.t = true)
 lone:∀ m ∈ r.log,oneM m = true
 mks:Mr.okMks r.mks
 below:∀ x ∈ ofM r.log,getM (ofM r.log) x.rep ≤ getM r.mks x.rep
 fl:r.fl = ⟨0,0⟩ ∨ knownT r.mks r.fl
 abv:since r.log r.fl = r.log
 len:r.base.length + r.log.length ≤ 250
 mlen:r.mks.length ≤ 250
structure RepW (W:World) (vb vl vm:Value) (r:Rp):Prop where
 b:Mem.Rows W vb r.base
 l:Mem.Mvs W vl r.log
 m:Mem.Mks W vm r.mks
 xb:∀ k,vb.ownBlock = some k → k < W.heap.size
 xl:∀ k,vl.ownBlock = some k → k < W.heap.size
 xm:∀ k,vm.ownBlock = some k → k < W.heap.size
theorem RepW.below {W W':World} {vb vl vm:Value} {r:Rp} (h:RepW W vb vl vm r) (hb:Below W.heap.size W W'):RepW W' vb vl vm r:=
 ⟨h.b.below hb,h.l.below hb,h.m.below hb,fun k e => Nat.lt_of_lt_of_le (h.xb k e) hb.size,fun k e => Nat.lt_of_lt_of_le (h.xl k e) hb.size,fun k e => Nat.lt_of_lt_of_le (h.xm k e) hb.size⟩
theorem RepW.same {W W':World} {vb vl vm:Value} {r:Rp} (h:RepW W vb vl vm r) (hs:W.heap.size ≤ W'.heap.size) (hsame:∀ k,vb.ownBlock = some k ∨ vl.ownBlock = some k ∨ vm.ownBlock = some k → W'.heap[k]? = W.heap[k]?):RepW W' vb vl vm r:=
 ⟨sl_same h.b hs (fun k e _ => hsame k (.inl e)),sl_same h.l hs (fun k e _ => hsame k (.inr (.inl e))),sl_same h.m hs (fun k e _ => hsame k (.inr (.inr e))),fun k e => Nat.lt_of_lt_of_le (h.xb k e) hs,fun k e => Nat.lt_of_lt_of_le (h.xl k e) hs,fun k e => Nat.lt_of_lt_of_le (h.xm k e) hs⟩
theorem oneR_in {x:Rw} (h:oneR x = true):(1 ≤ x.ch ∧ x.ch ≤ 2147483647 ∧ 0 ≤ x.pa ∧ x.pa ≤ 2147483647 ∧ x.nm.size ≤ 64) ∧ Wd.validU x.nm = true:=by
 unfold oneR at h
 simpa using h
theorem oneR_r {x:Rw} (h:oneR x = true):InR x.ch ∧ InR x.pa:=by
 have:=(oneR_in h).1;unfold InR;omega
theorem oneM_in {m:Mv} (h:oneM m = true):okT m.t ∧ oneR (rowOf m) = true:=by
 unfold oneM at h
 simpa using h
theorem pw_adj {α:Type} {R:α → α → Prop} {l:List α} (h:l.Pairwise R) (j:Nat) (a b:α) (ha:l[j]? = some a) (hb:l[j + 1]? = some b):R a b:=by
 obtain ⟨h1,rfl⟩:=List.getElem?_eq_some_iff.1 ha;obtain ⟨h2,rfl⟩:=List.getElem?_eq_some_iff.1 hb;exact List.pairwise_iff_getElem.1 h j (j + 1) h1 h2 (by omega)
theorem rise_nodup {l:List Rw} (h:l.Pairwise (fun a b => a.ch < b.ch)):(l.map (·.ch)).Nodup:=
 List.pairwise_map.2 (h.imp (fun h => by omega))
theorem len_of (l:List Mv):(ofM l).length ≤ l.length:=by
 have key:∀ (l:List Mv) (v:List Mk),(l.foldl (fun v m => raiseM v m.t) v).length ≤ v.length + l.length:=by
  intro l
  induction l with
  | nil => intro v;simp
  | cons m l ih =>
   intro v;rw [List.foldl_cons,List.length_cons];have h1:=ih (raiseM v m.t)
   have h2:(raiseM v m.t).length ≤ v.length + 1:=by
    unfold raiseM
    split
    ·rw [List.length_modify];omega
    ·split
     ·omega
     ·rw [List.length_append,List.length_take,List.length_cons,List.length_drop];omega
   omega
 have:=key l [];unfold ofM
 simpa using this
def repO (vb:Value) (fl:Tm) (vl vm:Value):Obj:=.cells #[vb,.int .i64 fl.c,.int .i64 fl.r,vl,vm] 34 (0,0)
theorem may1_ok (vb vl vm:Value) (r:Rp) (b:Nat) (w:World) (hb:w.heap[b]? = some (repO vb r.fl vl vm)) (hR:RepW w vb vl vm r) (hW:WfR r) :
  Calls Tryz.prog 65 #[.pointer (some ⟨b,0,none⟩)] w fun e w' => e = .returned (.bool true) ∧ Below w.heap.size w w':=by
 have h1:=hW.len;have HA:=hid (Tr.may_ok vb r.base w hR.b (by omega) hW.one (fun x h => by have:=(oneR_in (hW.one x h)).1;omega) (fun j a b h k => pw_adj hW.rise j a b h k) (rise_nodup hW.rise) (fun x h => oneR_r (hW.one x h)) hW.acyc);have HB:=hid (fun (W:World) (h:Mem.Mvs W vl r.log) => Mo.may_ok vl r.log W h (by omega) hW.lone (fun x h => by have:=(oneR_in (oneM_in (hW.lone x h)).2).1;unfold rowOf at this;dsimp only at this;omega) (fun j a b h k => pw_adj hW.lrise j a b h k))
 have HC:=hid (fun (W:World) (h:Mem.Mks W vm r.mks) => Mr.may_ok vm r.mks W h (by have:=hW.mlen;omega) hW.mks);obtain ⟨a1,k1,e1⟩:=hR.b.len;obtain ⟨a2,k2,e2⟩:=hR.l.len;obtain ⟨a3,k3,e3⟩:=hR.m.len;unfold repO at hb;have c0:w.cell? ⟨b,0,none⟩ = some vb:=cell_at hb 0;have hlt:=lt_of_block hb;have HR:=hid hR;replace hb:=hid hb;replace e1:=hid e1;replace e2:=hid e2;replace e3:=hid e3;clear hR hW;go_enter Tryz.func65,Tryz.ntmps65;go_wp2_with fail;refine HA.out.mono ?_
 rintro e w1 ⟨rfl,b1⟩;have c3:w1.cell? ⟨b,3,none⟩ = some vl:=cell_at (below_at b1 hb.out hlt) 3;have HB1:=hid (HB.out w1 (HR.out.l.below b1));replace b1:=hid b1;clear HA HB;go_wp2_with fail;refine HB1.out.mono ?_
 rintro e w2 ⟨rfl,b2⟩;have b3:=b1.out.trans (b2.mono b1.out.size);have c4:w2.cell? ⟨b,4,none⟩ = some vm:=cell_at (below_at b3 hb.out hlt) 4;have HC1:=hid (HC.out w2 (HR.out.m.below b3));replace b3:=hid b3;clear HC HB1 b2;go_wp2_with fail;refine HC1.out.mono ?_
 rintro e w3 ⟨rfl,b4⟩;have b5:=hid (b3.out.trans (b4.mono b3.out.size));clear b4;go_wp2_with fail;go_ret;exact ⟨rfl,b5.out⟩
theorem may2_ok (vb vl vm:Value) (r:Rp) (b:Nat) (w:World) (hb:w.heap[b]? = some (repO vb r.fl vl vm)) (hR:RepW w vb vl vm r) (hW:WfR r) :
  Calls Tryz.prog 69 #[.pointer (some ⟨b,0,none⟩)] w fun e w' => e = .returned (.bool true) ∧ Below w.heap.size w w':=by
 have h1:=hW.len;have h2:=len_of r.log;have h3:=hW.mlen;have HO:=hid (fun (W:World) (h:Below w.heap.size w W) => Mr.of_any vl r.log W (hR.below h).l (by omega));have HB:=hid (fun (va:Value) (W:World) (h:Below w.heap.size w W) (k:Mem.Mks W va (ofM r.log)) => Mr.below_ok va vm (ofM r.log) r.mks W k (hR.below h).m (by omega) (by omega) hW.below);obtain ⟨a2,k2,e2⟩:=hR.l.len;obtain ⟨a3,k3,e3⟩:=hR.m.len;unfold repO at hb;have hlt:=lt_of_block hb
 have cS:∀ W:World,Below w.heap.size w W → W.cell? ⟨b,3,none⟩ = some vl ∧ W.cell? ⟨b,4,none⟩ = some vm ∧ Below w.heap.size w W:=fun W h =>
  ⟨cell_at (below_at h hb hlt) 3,cell_at (below_at h hb hlt) 4,h⟩
 replace cS:=hid cS;replace e2:=hid e2;replace e3:=hid e3;clear hR hW hb;go_enter Tryz.func69,Tryz.ntmps69;go_wp2_with fail
 go_region_held3 (fun W:World => W.cell? ⟨b,3,none⟩ = some vl ∧ W.cell? ⟨b,4,none⟩ = some vm ∧ Below w.heap.size w W) (first | assumption | exact cS.out _ (Below.refl _ _).drew | exact cS.out _ hb3.out | exact cS.out _ hb5.out)
  ((first
   | (go_at_call 26;(refine (HO.out _ (Below.refl _ _).drew).mono ?_);rintro e w3 ⟨⟨v2,rfl,hO2⟩,hb3⟩;replace hb3:=hid ((Below.refl w.heap.size w).drew.trans hb3);replace hO2:=hid hO2)
   | (go_at_call 70;(refine (HB.out _ _ hb3.out (own_sl hO2.out)).mono ?_);rintro e w5 ⟨rfl,hb5⟩;replace hb5:=hid (hb3.out.trans (hb5.mono hb3.out.size)))))
 all_goals
  go_wp2_with fail;go_ret;exact ⟨rfl,hb5.out⟩
theorem may3_ok (vb vl vm:Value) (r:Rp) (b:Nat) (w:World) (hb:w.heap[b]? = some (repO vb r.fl vl vm)) (hR:RepW w vb vl vm r) (hW:WfR r) :
  Calls Tryz.prog 71 #[.pointer (some ⟨b,0,none⟩)] w fun e w' => e = .returned (.bool true) ∧ Below w.heap.size w w':=by
 have h3:=hW.mlen;have hfl:=hW.fl;have HK:=hid (fun (W:World) (h:Below w.heap.size w W) => known_any vm r.mks r.fl W (hR.below h).m (by omega));obtain ⟨a3,k3,e3⟩:=hR.m.len;unfold repO at hb;have c1:w.cell? ⟨b,1,none⟩ = some (.int .i64 r.fl.c):=cell_at hb 1;have c2:w.cell? ⟨b,2,none⟩ = some (.int .i64 r.fl.r):=cell_at hb 2;have c4:w.cell? ⟨b,4,none⟩ = some vm:=cell_at hb 4;replace e3:=hid e3;clear hR hW hb;unfold tmV at HK
 by_cases h0:r.fl = ⟨0,0⟩
 ·have h01:r.fl.c = 0:=by rw [h0]
  have h02:r.fl.r = 0:=by rw [h0]
  rw [h01] at c1;rw [h02] at c2;clear h0 h01 h02 hfl;go_enter Tryz.func71,Tryz.ntmps71;go_wp2_with fail;go_ret;exact ⟨rfl,Below.refl _ _⟩
 ·have hk:knownT r.mks r.fl:=hfl.resolve_left h0
  rw [decide_eq_true hk] at HK;have hc1:=hk.1.1
  have hne:((r.fl.c:Int) == 0) = false:=by simp;omega
  replace hk:=hid hk;clear h0 hfl;go_enter Tryz.func71,Tryz.ntmps71;go_wp2_with fail;refine (HK.out _ (Below.refl _ _)).mono ?_
  rintro e w3 ⟨rfl,hb3⟩;replace hb3:=hid hb3;go_wp2_with fail;go_ret;exact ⟨rfl,hb3.out⟩
theorem may4_ok (vb vl vm:Value) (r:Rp) (b:Nat) (w:World) (hb:w.heap[b]? = some (repO vb r.fl vl vm)) (hR:RepW w vb vl vm r) (hW:WfR r) :
  Calls Tryz.prog 72 #[.pointer (some ⟨b,0,none⟩)] w fun e w' => e = .returned (.bool true) ∧ Below w.heap.size w w':=by
 have h1:=hW.len;have HS:=hid (fun (W:World) (h:Below w.heap.size w W) => Mo.since_any vl r.log r.fl W (hR.below h).l (by omega));rw [hW.abv] at HS;unfold tmV at HS;obtain ⟨a2,k2,e2⟩:=hR.l.len;unfold repO at hb;have hlt:=lt_of_block hb
 have cS:∀ W:World,Below w.heap.size w W → W.cell? ⟨b,1,none⟩ = some (.int .i64 r.fl.c) ∧ W.cell? ⟨b,2,none⟩ = some (.int .i64 r.fl.r) ∧ W.cell? ⟨b,3,none⟩ = some vl ∧ Below w.heap.size w W:=fun W h =>
  ⟨cell_at (below_at h hb hlt) 1,cell_at (below_at h hb hlt) 2,cell_at (below_at h hb hlt) 3,h⟩
 replace cS:=hid cS;subst e2;clear hR hW hb;go_enter Tryz.func72,Tryz.ntmps72;go_wp2_with fail
 go_region_held3 (fun W:World => W.cell? ⟨b,1,none⟩ = some (.int .i64 r.fl.c) ∧ W.cell? ⟨b,2,none⟩ = some (.int .i64 r.fl.r) ∧ W.cell? ⟨b,3,none⟩ = some (.slice a2 r.log.length k2) ∧ Below w.heap.size w W) (first | assumption | exact cS.out _ (Below.refl _ _).drew | exact cS.out _ hb3.out)
  (((go_at_call 39;(refine (HS.out _ (Below.refl _ _).drew).mono ?_);rintro e w3 ⟨⟨v2,rfl,hO2⟩,hb3⟩;obtain ⟨a5,k5,e5⟩:=(own_sl hO2).len;subst e5;replace hb3:=hid ((Below.refl w.heap.size w).drew.trans hb3);clear hO2)))
 all_goals
  go_wp2_with fail;go_ret;exact ⟨by simp,hb3.out⟩
theorem may5_ok (vb vl vm:Value) (r:Rp) (b:Nat) (w:World) (hb:w.heap[b]? = some (repO vb r.fl vl vm)) (hR:RepW w vb vl vm r) (hW:WfR r) :
  Calls Tryz.prog 73 #[.pointer (some ⟨b,0,none⟩)] w fun e w' => e = .returned (.bool true) ∧ Below w.heap.size w w':=by
 have h1:=hW.len;have HC:=hid (children_any vb vl vm r.fl r.base r.log w hR.b hR.l (by omega) (by omega) (fun x h => (oneR_r (hW.one x h)).1) (fun m h => (oneR_r (oneM_in (hW.lone m h)).2).1));unfold repV at HC;obtain ⟨a1,k1,e1⟩:=hR.b.len;obtain ⟨a2,k2,e2⟩:=hR.l.len;obtain ⟨a3,k3,e3⟩:=hR.m.len;unfold repO at hb;have c0:w.cell? ⟨b,0,none⟩ = some vb:=cell_at hb 0;have c1:w.cell? ⟨b,1,none⟩ = some (.int .i64 r.fl.c):=cell_at hb 1;have c2:w.cell? ⟨b,2,none⟩ = some (.int .i64 r.fl.r):=cell_at hb 2;have c3:w.cell? ⟨b,3,none⟩ = some vl:=cell_at hb 3
 have c4:w.cell? ⟨b,4,none⟩ = some vm:=cell_at hb 4;subst e1 e2 e3;clear hR hW hb;go_enter Tryz.func73,Tryz.ntmps73;go_wp2_with fail;refine HC.out.mono ?_
 rintro e w3 ⟨rfl,⟨D,⟨k,hM⟩,hsz⟩,hb3⟩
 have hlen:=fun ty => hM.len Tryz.underlying98 ty
 have hd:decide ((Maps.size D:Int) ≤ 2000) = true:=decide_eq_true (by omega);replace hb3:=hid hb3;replace hM:=hid hM;clear HC;go_wp2_with fail;go_ret;exact ⟨rfl,hb3.out⟩
theorem may_ok (vb vl vm:Value) (r:Rp) (w:World) (hR:RepW w vb vl vm r) (hW:WfR r) :
  Calls Tryz.prog 36 #[repV vb r.fl vl vm] w fun e w' => e = .returned (.bool true) ∧ Below w.heap.size w w':=by
 have hmf:∀ (fn:Fn) (first cap:Array Value) (w:World),(Instr.makeFunc fn first cap).run Tryz.prog w = .ok (.func fn first cap) w:=fun _ _ _ _ => rfl
 unfold repV;go_enter Tryz.func36,Tryz.ntmps36;go_wp2_with fail;obtain ⟨W0,hW0⟩:∃ W0,(w.alloc (.cells #[vb,.int .i64 r.fl.c,.int .i64 r.fl.r,vl,vm] 34)).alloc (.cells #[.func (.func 65) #[] #[.pointer (some ⟨w.heap.size,0,none⟩)],.func (.func 69) #[] #[.pointer (some ⟨w.heap.size,0,none⟩)],.func (.func 71) #[] #[.pointer (some ⟨w.heap.size,0,none⟩)],.func (.func 72) #[] #[.pointer (some ⟨w.heap.size,0,none⟩)],.func (.func 73) #[] #[.pointer (some ⟨w.heap.size,0,none⟩)]] 28) = W0:=⟨_,rfl⟩
 have hL:lay w [.cells #[vb,.int .i64 r.fl.c,.int .i64 r.fl.r,vl,vm] 34,.cells #[.func (.func 65) #[] #[.pointer (some ⟨w.heap.size,0,none⟩)],.func (.func 69) #[] #[.pointer (some ⟨w.heap.size,0,none⟩)],.func (.func 71) #[] #[.pointer (some ⟨w.heap.size,0,none⟩)],.func (.func 72) #[] #[.pointer (some ⟨w.heap.size,0,none⟩)],.func (.func 73) #[] #[.pointer (some ⟨w.heap.size,0,none⟩)]] 28] = W0:=hW0
 have hb0:Below w.heap.size w W0:=by rw [← hL];exact lay_below _ _
 have hg0:W0.heap[w.heap.size]? = some (repO vb r.fl vl vm):=by rw [← hL];exact lay_at _ w 0 _ rfl
 have hg1:W0.heap[w.heap.size + 1]? = some (.cells #[.func (.func 65) #[] #[.pointer (some ⟨w.heap.size,0,none⟩)],.func (.func 69) #[] #[.pointer (some ⟨w.heap.size,0,none⟩)],.func (.func 71) #[] #[.pointer (some ⟨w.heap.size,0,none⟩)],.func (.func 72) #[] #[.pointer (some ⟨w.heap.size,0,none⟩)],.func (.func 73) #[] #[.pointer (some ⟨w.heap.size,0,none⟩)]] 28 (0,0)):=by rw [← hL];exact lay_at _ w 1 _ rfl
 have hl0:=lt_of_block hg0;have hl1:=lt_of_block hg1;rw [hW0];clear hW0 hL hmf;have H1:=hid (fun (W:World) (h:Below W0.heap.size W0 W) => may1_ok vb vl vm r w.heap.size W (below_at h hg0 hl0) ((hR.below hb0).below h) hW);have H2:=hid (fun (W:World) (h:Below W0.heap.size W0 W) => may2_ok vb vl vm r w.heap.size W (below_at h hg0 hl0) ((hR.below hb0).below h) hW);have H3:=hid (fun (W:World) (h:Below W0.heap.size W0 W) => may3_ok vb vl vm r w.heap.size W (below_at h hg0 hl0) ((hR.below hb0).below h) hW)
 have H4:=hid (fun (W:World) (h:Below W0.heap.size W0 W) => may4_ok vb vl vm r w.heap.size W (below_at h hg0 hl0) ((hR.below hb0).below h) hW);have H5:=hid (fun (W:World) (h:Below W0.heap.size W0 W) => may5_ok vb vl vm r w.heap.size W (below_at h hg0 hl0) ((hR.below hb0).below h) hW);have C1:=hid (fun (W:World) (h:Below W0.heap.size W0 W) => (cell_at (below_at h hg1 hl1) 0).trans (show _ = some (.func (.func 65) #[] #[.pointer (some ⟨w.heap.size,0,none⟩)]) from rfl))
 have C2:=hid (fun (W:World) (h:Below W0.heap.size W0 W) => (cell_at (below_at h hg1 hl1) 1).trans (show _ = some (.func (.func 69) #[] #[.pointer (some ⟨w.heap.size,0,none⟩)]) from rfl));have C3:=hid (fun (W:World) (h:Below W0.heap.size W0 W) => (cell_at (below_at h hg1 hl1) 2).trans (show _ = some (.func (.func 71) #[] #[.pointer (some ⟨w.heap.size,0,none⟩)]) from rfl));have C4:=hid (fun (W:World) (h:Below W0.heap.size W0 W) => (cell_at (below_at h hg1 hl1) 3).trans (show _ = some (.func (.func 72) #[] #[.pointer (some ⟨w.heap.size,0,none⟩)]) from rfl))
 have C5:=hid (fun (W:World) (h:Below W0.heap.size W0 W) => (cell_at (below_at h hg1 hl1) 4).trans (show _ = some (.func (.func 73) #[] #[.pointer (some ⟨w.heap.size,0,none⟩)]) from rfl));have B0:=hid (Below.refl W0.heap.size W0);replace hb0:=hid hb0;clear hR hW hg0 hg1;refine wp_loop_rounds 6 ?_
 have q1:=C1.out W0 B0.out;rw [rounds_succ];go_wp2_with fail;refine (H1.out _ B0.out).mono ?_
 rintro e w1 ⟨rfl,k1⟩;have B1:=hid (B0.out.trans (k1.mono B0.out.size));clear k1 q1;go_wp2_with fail;have q2:=C2.out w1 B1.out;rw [rounds_succ];go_wp2_with fail;refine (H2.out _ B1.out).mono ?_
 rintro e w2 ⟨rfl,k2⟩;have B2:=hid (B1.out.trans (k2.mono B1.out.size));clear k2 q2;go_wp2_with fail;have q3:=C3.out w2 B2.out;rw [rounds_succ];go_wp2_with fail;refine (H3.out _ B2.out).mono ?_
 rintro e w3 ⟨rfl,k3⟩;have B3:=hid (B2.out.trans (k3.mono B2.out.size));clear k3 q3;go_wp2_with fail;have q4:=C4.out w3 B3.out;rw [rounds_succ];go_wp2_with fail;refine (H4.out _ B3.out).mono ?_
 rintro e w4 ⟨rfl,k4⟩;have B4:=hid (B3.out.trans (k4.mono B3.out.size));clear k4 q4;go_wp2_with fail;have q5:=C5.out w4 B4.out;rw [rounds_succ];go_wp2_with fail;refine (H5.out _ B4.out).mono ?_
 rintro e w5 ⟨rfl,k5⟩;have B5:=hid (B4.out.trans (k5.mono B4.out.size));clear k5 q5;go_wp2_with fail;rw [rounds_succ];have hf:=hid (hb0.out.trans (B5.out.mono hb0.out.size));go_wp2_with fail;go_ret;exact ⟨rfl,hf.out⟩
end Fo
end
section
open Go.RowKit
attribute [local go_sem] Fl.run_store_float
namespace Fo
open Mem Tp Tr Mo
def addR (r:Rp) (m:Mv):Rp × Bool × Int:=
 if oneM m = false then (r,false,1) else if bef r.fl m.t = false then (r,false,9) else if hasT r.log m.t = true then (r,false,0)
 else (⟨r.base,r.fl,insM r.log m,raiseM r.mks m.t⟩,true,0)
structure Back (w w':World) (vb vl vm vb' vl' vm':Value) (r':Rp):Prop where
 r:RepW w' vb' vl' vm' r'
 nb:Near2 w w' vb vb'
 nl:Near2 w w' vl vl'
 nm:Near2 w w' vm vm'
theorem Back.refl {w w':World} {vb vl vm:Value} {r:Rp} (h:RepW w' vb vl vm r):Back w w' vb vl vm vb vl vm r:=⟨h,near2_refl _ _ _,near2_refl _ _ _,near2_refl _ _ _⟩
theorem info_rep:(Tryz.prog.info? 34).map (·.size) = some 5:=by kernel_rfl
theorem rep_results (fn:Func) (t5 t6:Nat) (hr:fn.results = #[.cell 4 34,.tmp t5,.tmp t6]) (tmps:Array Value) (w:World) (B:Nat) (fl:Tm) (vb vl vm:Value) (h:tmps.getD 4 undef = .pointer (some ⟨B,0,none⟩)) (hw:w.heap[B]? = some (repO vb fl vl vm)) :
  (results fn tmps).run Tryz.prog w = .ok (.tuple #[repV vb fl vl vm,tmps.getD t5 undef,tmps.getD t6 undef]) w:=by
 unfold repO at hw;have c0:w.cell? ⟨B,0,none⟩ = some vb:=cell_at hw 0;have c1:w.cell? ⟨B,1,none⟩ = some (.int .i64 fl.c):=cell_at hw 1;have c2:w.cell? ⟨B,2,none⟩ = some (.int .i64 fl.r):=cell_at hw 2;have c3:w.cell? ⟨B,3,none⟩ = some vl:=cell_at hw 3;have c4:w.cell? ⟨B,4,none⟩ = some vm:=cell_at hw 4;simp only [results,hr];simp only [Array.getD_eq_getD_getElem?] at h;simp [Sem.run_bind,Result.andThen,h,go_sem];simp [c0,c1,c2,c3,c4]
 rfl
theorem rep_results2 (fn:Func) (t5:Nat) (hr:fn.results = #[.cell 4 34,.tmp t5]) (tmps:Array Value) (w:World) (B:Nat) (fl:Tm) (vb vl vm:Value) (h:tmps.getD 4 undef = .pointer (some ⟨B,0,none⟩)) (hw:w.heap[B]? = some (repO vb fl vl vm)) :
  (results fn tmps).run Tryz.prog w = .ok (.tuple #[repV vb fl vl vm,tmps.getD t5 undef]) w:=by
 unfold repO at hw;have c0:w.cell? ⟨B,0,none⟩ = some vb:=cell_at hw 0;have c1:w.cell? ⟨B,1,none⟩ = some (.int .i64 fl.c):=cell_at hw 1;have c2:w.cell? ⟨B,2,none⟩ = some (.int .i64 fl.r):=cell_at hw 2;have c3:w.cell? ⟨B,3,none⟩ = some vl:=cell_at hw 3;have c4:w.cell? ⟨B,4,none⟩ = some vm:=cell_at hw 4;simp only [results,hr];simp only [Array.getD_eq_getD_getElem?] at h;simp [Sem.run_bind,Result.andThen,h,go_sem];simp [c0,c1,c2,c3,c4]
 rfl
theorem add_any (vb vl vm:Value) (r:Rp) (m:Mv) (w:World) (hR:RepW w vb vl vm r) (hW:WfR r) (hz:m.nm.size ≤ 100000) :
  Calls Tryz.prog 18 #[repV vb r.fl vl vm,movV m] w fun e w' => (∃ vb' vl' vm',e = .returned (.tuple #[repV vb' (addR r m).1.fl vl' vm',.bool (addR r m).2.1,.int .i64 (addR r m).2.2]) ∧ Back w w' vb vl vm vb' vl' vm' (addR r m).1) ∧ Below w.heap.size w w':=by
 have h1:=hW.len;have h2:=hW.mlen;obtain ⟨W0,hW0⟩:∃ W0,((w.alloc (.cells #[vb,.int .i64 r.fl.c,.int .i64 r.fl.r,vl,vm] 34)).alloc (.cells #[.int .i64 m.t.c,.int .i64 m.t.r,.int .i64 m.pa,.int .i64 m.ch,.string m.nm,.float .f64 m.rk] 49)).alloc (.cells #[.slice none 0 0,.int .i64 0,.int .i64 0,.slice none 0 0,.slice none 0 0] 34) = W0:=⟨_,rfl⟩
 have hL:lay w [.cells #[vb,.int .i64 r.fl.c,.int .i64 r.fl.r,vl,vm] 34,.cells #[.int .i64 m.t.c,.int .i64 m.t.r,.int .i64 m.pa,.int .i64 m.ch,.string m.nm,.float .f64 m.rk] 49,.cells #[.slice none 0 0,.int .i64 0,.int .i64 0,.slice none 0 0,.slice none 0 0] 34] = W0:=hW0
 have hb0:Below w.heap.size w W0:=by rw [← hL];exact lay_below _ _
 have hs0:W0.heap.size = w.heap.size + 3:=by rw [← hL];exact lay_size _ _
 have g0:W0.heap[w.heap.size]? = some (.cells #[vb,.int .i64 r.fl.c,.int .i64 r.fl.r,vl,vm] 34 (0,0)):=by rw [← hL];exact lay_at _ w 0 _ rfl
 have g1:W0.heap[w.heap.size + 1]? = some (.cells #[.int .i64 m.t.c,.int .i64 m.t.r,.int .i64 m.pa,.int .i64 m.ch,.string m.nm,.float .f64 m.rk] 49 (0,0)):=by rw [← hL];exact lay_at _ w 1 _ rfl
 have g2:W0.heap[w.heap.size + 2]? = some (.cells #[.slice none 0 0,.int .i64 0,.int .i64 0,.slice none 0 0,.slice none 0 0] 34 (0,0)):=by rw [← hL];exact lay_at _ w 2 _ rfl
 have hR0:=hR.below hb0;have HM:=hid (may_ok vb vl vm r W0 hR0 hW);have HO:=hid (fun (W:World) => one_any m W hz);unfold repV at HM;unfold movV at HO;obtain ⟨a1,k1,e1⟩:=hR.b.len;obtain ⟨a2,k2,e2⟩:=hR.l.len;obtain ⟨a3,k3,e3⟩:=hR.m.len
 have K0:∀ W,Below W0.heap.size W0 W → W.heap[w.heap.size]? = some (.cells #[vb,.int .i64 r.fl.c,.int .i64 r.fl.r,vl,vm] 34 (0,0)):=fun W h => below_at h g0 (by omega)
 have K1:∀ W,Below W0.heap.size W0 W → W.heap[w.heap.size + 1]? = some (.cells #[.int .i64 m.t.c,.int .i64 m.t.r,.int .i64 m.pa,.int .i64 m.ch,.string m.nm,.float .f64 m.rk] 49 (0,0)):=fun W h => below_at h g1 (by omega)
 have K2:∀ W,Below W0.heap.size W0 W → W.heap[w.heap.size + 2]? = some (.cells #[.slice none 0 0,.int .i64 0,.int .i64 0,.slice none 0 0,.slice none 0 0] 34 (0,0)):=fun W h => below_at h g2 (by omega)
 replace K0:=hid K0;replace K1:=hid K1;replace K2:=hid K2;have HR:=hid (fun (W:World) (h:Below W0.heap.size W0 W) => hR0.below h);replace e1:=hid e1;replace e2:=hid e2;replace e3:=hid e3;replace hb0:=hid hb0;replace hs0:=hid hs0;replace hL:=hid hW0;have c0:W0.cell? ⟨w.heap.size,0,none⟩ = some vb:=cell_at g0 0;have c1:W0.cell? ⟨w.heap.size,1,none⟩ = some (.int .i64 r.fl.c):=cell_at g0 1;have c2:W0.cell? ⟨w.heap.size,2,none⟩ = some (.int .i64 r.fl.r):=cell_at g0 2;have c3:W0.cell? ⟨w.heap.size,3,none⟩ = some vl:=cell_at g0 3
 have c4:W0.cell? ⟨w.heap.size,4,none⟩ = some vm:=cell_at g0 4;have HRw:=hid hR;have HI1:=hid (fun x (h:x ∈ r.base) => (oneR_r (hW.one x h)).1);have HI2:=hid (fun m (h:m ∈ r.log) => (oneR_r (oneM_in (hW.lone m h)).2).1);clear g0 g1 g2 hW0 hR hR0;have HRes:=hid (fun (tmps:Array Value) (W:World) (vl' vm':Value) h h' => rep_results Tryz.f18 5 6 rfl tmps W (w.heap.size + 2) r.fl vb vl' vm' h h');obtain ⟨Q,hQ⟩:∃ Q:Rp × Bool × Int,addR r m = Q:=⟨_,rfl⟩;rw [hQ];replace hQ:=hid hQ;unfold repV movV;go_enter Tryz.func18,Tryz.ntmps18;go_wp2_with fail;rw [hL.out]
 refine HM.out.mono ?_
 rintro e w1 ⟨rfl,b1⟩;replace b1:=hid b1;clear c0 c1 c2 c3 c4 HM hL
 have ones:Hid (∀ v ∈ [vb,.int .i64 r.fl.c,.int .i64 r.fl.r,vl,vm],v.oneCell' = true):=hid (by
  rw [e1.out,e2.out,e3.out];intro v hv;simp only [List.mem_cons,List.not_mem_nil,or_false] at hv
  rcases hv with rfl | rfl | rfl | rfl | rfl <;> rfl)
 have m0:=cell_at (K1.out _ b1.out) 0;have m1:=cell_at (K1.out _ b1.out) 1;have m2:=cell_at (K1.out _ b1.out) 2;have m3:=cell_at (K1.out _ b1.out) 3;have m4:=cell_at (K1.out _ b1.out) 4;have m5:=cell_at (K1.out _ b1.out) 5;simp only [List.getElem?_toArray,List.getElem?_cons_zero,List.getElem?_cons_succ] at m0 m1 m2 m3 m4 m5;go_wp2_with fail;refine (HO.out _).mono ?_
 rintro e w2 ⟨rfl,b2⟩;replace b2:=hid (b1.out.trans (b2.mono b1.out.size));clear m0 m1 m2 m3 m4 m5 HO
 cases hone:oneM m
 ·have hq:Hid (Q = (r,false,1)):=hid (by rw [← hQ.out];unfold addR;rw [if_pos hone])
  have k2:=K2.out _ b2.out;have hsz:=b2.out.size;have hs0':=hs0.out;have r0:=cell_at (K0.out _ b2.out) 0;have r1:=cell_at (K0.out _ b2.out) 1;have r2:=cell_at (K0.out _ b2.out) 2;have r3:=cell_at (K0.out _ b2.out) 3;have r4:=cell_at (K0.out _ b2.out) 4;simp only [List.getElem?_toArray,List.getElem?_cons_zero,List.getElem?_cons_succ] at r0 r1 r2 r3 r4
  go_wp2_with (refine wpList_store_splice (by rfl) 34 _ _ (by rfl) (w.heap.size + 2) 0 [vb,.int .i64 r.fl.c,.int .i64 r.fl.r,vl,vm] (by rfl) (by rfl) 34 [.slice none 0 0,.int .i64 0,.int .i64 0,.slice none 0 0,.slice none 0 0] k2 (info_rep.trans rfl) (by simp) ones.out ?_;intro w4 hg4 hB4 hO4)
  have hb9:=hB4.out w.heap.size w (hb0.out.trans (b2.out.mono hb0.out.size)) (by omega);refine bodyPost_ret (HRes.out _ w4 vl vm rfl (hg4.out.trans rfl)) rfl ?_
  rw [hq.out];exact ⟨⟨vb,vl,vm,rfl,Back.refl (HRw.out.below hb9)⟩,hb9⟩
 ·have r0:=cell_at (K0.out _ b2.out) 0
  have r1:=cell_at (K0.out _ b2.out) 1;have r2:=cell_at (K0.out _ b2.out) 2;have r3:=cell_at (K0.out _ b2.out) 3;have r4:=cell_at (K0.out _ b2.out) 4;simp only [List.getElem?_toArray,List.getElem?_cons_zero,List.getElem?_cons_succ] at r0 r1 r2 r3 r4;have m0:=cell_at (K1.out _ b2.out) 0;have m1:=cell_at (K1.out _ b2.out) 1;have m2:=cell_at (K1.out _ b2.out) 2;have m3:=cell_at (K1.out _ b2.out) 3;have m4:=cell_at (K1.out _ b2.out) 4;have m5:=cell_at (K1.out _ b2.out) 5
  simp only [List.getElem?_toArray,List.getElem?_cons_zero,List.getElem?_cons_succ] at m0 m1 m2 m3 m4 m5;have HBf:=hid (Fl.before_any r.fl.c r.fl.r m.t.c m.t.r w2);go_wp2_with fail;refine HBf.out.mono ?_
  rintro e w3 ⟨rfl,b3⟩;replace b3:=hid (b2.out.trans (b3.mono b2.out.size));rw [Mo.ahead_bef];clear r0 r1 r2 r3 r4 m0 m1 m2 m3 m4 m5 HBf b2
  cases hbf:bef r.fl m.t
  ·have hq:Hid (Q = (r,false,9)):=hid (by rw [← hQ.out];unfold addR;rw [if_neg (by rw [hone];decide),if_pos hbf])
   have k2:=K2.out _ b3.out;have hsz:=b3.out.size;have hs0':=hs0.out;have r0:=cell_at (K0.out _ b3.out) 0;have r1:=cell_at (K0.out _ b3.out) 1;have r2:=cell_at (K0.out _ b3.out) 2;have r3:=cell_at (K0.out _ b3.out) 3;have r4:=cell_at (K0.out _ b3.out) 4;simp only [List.getElem?_toArray,List.getElem?_cons_zero,List.getElem?_cons_succ] at r0 r1 r2 r3 r4
   go_wp2_with (refine wpList_store_splice (by rfl) 34 _ _ (by rfl) (w.heap.size + 2) 0 [vb,.int .i64 r.fl.c,.int .i64 r.fl.r,vl,vm] (by rfl) (by rfl) 34 [.slice none 0 0,.int .i64 0,.int .i64 0,.slice none 0 0,.slice none 0 0] k2 (info_rep.trans rfl) (by simp) ones.out ?_;intro w4 hg4 hB4 hO4)
   have hb9:=hB4.out w.heap.size w (hb0.out.trans (b3.out.mono hb0.out.size)) (by omega);refine bodyPost_ret (HRes.out _ w4 vl vm rfl (hg4.out.trans rfl)) rfl ?_
   rw [hq.out];exact ⟨⟨vb,vl,vm,rfl,Back.refl (HRw.out.below hb9)⟩,hb9⟩
  ·have r0:=cell_at (K0.out _ b3.out) 0
   have r1:=cell_at (K0.out _ b3.out) 1;have r2:=cell_at (K0.out _ b3.out) 2;have r3:=cell_at (K0.out _ b3.out) 3;have r4:=cell_at (K0.out _ b3.out) 4;simp only [List.getElem?_toArray,List.getElem?_cons_zero,List.getElem?_cons_succ] at r0 r1 r2 r3 r4;have m0:=cell_at (K1.out _ b3.out) 0;have m1:=cell_at (K1.out _ b3.out) 1;have m2:=cell_at (K1.out _ b3.out) 2;have m3:=cell_at (K1.out _ b3.out) 3;have m4:=cell_at (K1.out _ b3.out) 4;have m5:=cell_at (K1.out _ b3.out) 5
   simp only [List.getElem?_toArray,List.getElem?_cons_zero,List.getElem?_cons_succ] at m0 m1 m2 m3 m4 m5;have HI:=hid (Mo.insert_any vl r.log m w3 (HR.out _ b3.out).l (by omega));unfold movV at HI;go_wp2_with fail;refine HI.out.mono ?_
   rintro e w5 ⟨⟨vl',at_,rfl,hI,hnl⟩,b5⟩;have hnl':Hid (Near2 w w5 vl vl'):=hid (hnl.mono (by have:=b3.out.size;have:=hs0.out;omega) (Nat.le_refl _));have hs35:=b5.size
   have hl3:Hid (∀ k,vl'.ownBlock = some k → k < w.heap.size ∨ (w.heap.size + 3 ≤ k ∧ k < w5.heap.size)):=hid (fun k e => by
    rcases hnl k e with h | h
    ·exact .inl (HRw.out.xl k h)
    ·exact .inr ⟨by have:=b3.out.size;have:=hs0.out;omega,h.2⟩)
   obtain ⟨a5,k5,e5⟩:=hI.len;replace e5:=hid e5;replace hI:=hid hI;replace b5:=hid (b3.out.trans (b5.mono b3.out.size));clear r0 r1 r2 r3 r4 m0 m1 m2 m3 m4 m5 HI b3 hnl
   cases hh:hasT r.log m.t
   rotate_left
   ·have hq:Hid (Q = (r,false,0)):=hid (by rw [← hQ.out];unfold addR;rw [if_neg (by rw [hone];decide),if_neg (by rw [hbf];decide),if_pos hh])
    have k2:=K2.out _ b5.out;have hsz:=b5.out.size;have hs0':=hs0.out;have r0:=cell_at (K0.out _ b5.out) 0;have r1:=cell_at (K0.out _ b5.out) 1;have r2:=cell_at (K0.out _ b5.out) 2;have r3:=cell_at (K0.out _ b5.out) 3;have r4:=cell_at (K0.out _ b5.out) 4;simp only [List.getElem?_toArray,List.getElem?_cons_zero,List.getElem?_cons_succ] at r0 r1 r2 r3 r4
    go_wp2_with (refine wpList_store_splice (by rfl) 34 _ _ (by rfl) (w.heap.size + 2) 0 [vb,.int .i64 r.fl.c,.int .i64 r.fl.r,vl,vm] (by rfl) (by rfl) 34 [.slice none 0 0,.int .i64 0,.int .i64 0,.slice none 0 0,.slice none 0 0] k2 (info_rep.trans rfl) (by simp) ones.out ?_;intro w4 hg4 hB4 hO4)
    have hb9:=hB4.out w.heap.size w (hb0.out.trans (b5.out.mono hb0.out.size)) (by omega);refine bodyPost_ret (HRes.out _ w4 vl vm rfl (hg4.out.trans rfl)) rfl ?_
    rw [hq.out];exact ⟨⟨vb,vl,vm,rfl,Back.refl (HRw.out.below hb9)⟩,hb9⟩
   ·have hq:Hid (Q = (⟨r.base,r.fl,insM r.log m,raiseM r.mks m.t⟩,true,0)):=hid (by rw [← hQ.out];unfold addR;rw [if_neg (by rw [hone];decide),if_neg (by rw [hbf];decide),if_neg (by rw [hh];decide)])
    have HCh:=hid (children_any vb vl vm r.fl r.base r.log w5 (HR.out _ b5.out).b (HR.out _ b5.out).l (by omega) (by omega) HI1.out HI2.out);unfold repV at HCh;have r0:=cell_at (K0.out _ b5.out) 0;have r1:=cell_at (K0.out _ b5.out) 1;have r2:=cell_at (K0.out _ b5.out) 2;have r3:=cell_at (K0.out _ b5.out) 3;have r4:=cell_at (K0.out _ b5.out) 4;simp only [List.getElem?_toArray,List.getElem?_cons_zero,List.getElem?_cons_succ] at r0 r1 r2 r3 r4;have m0:=cell_at (K1.out _ b5.out) 0;have m1:=cell_at (K1.out _ b5.out) 1;have m2:=cell_at (K1.out _ b5.out) 2
    have m3:=cell_at (K1.out _ b5.out) 3;have m4:=cell_at (K1.out _ b5.out) 4;have m5:=cell_at (K1.out _ b5.out) 5;simp only [List.getElem?_toArray,List.getElem?_cons_zero,List.getElem?_cons_succ] at m0 m1 m2 m3 m4 m5;go_wp2_with fail;refine HCh.out.mono ?_
    rintro e w6 ⟨rfl,⟨D,⟨kk,hM⟩,hsD⟩,b6⟩
    have hlen:=fun ty => hM.len Tryz.underlying98 ty
    have hd1:((Maps.size D:Int) == 2000) = false:=by
     rw [beq_eq_false_iff_ne];omega
    have hd2:((r.log.length:Int) == 2000) = false:=by
     rw [beq_eq_false_iff_ne];omega
    have hI6:=hid (hI.out.below b6);have hs56:=b6.size;replace b6:=hid (b5.out.trans (b6.mono b5.out.size));replace hM:=hid hM;clear r0 r1 r2 r3 r4 m0 m1 m2 m3 m4 m5 HCh;have e2':=e2.out;subst e2';have hnot:Hid (Below w.heap.size w w6):=hid (hb0.out.trans (b6.out.mono hb0.out.size));have HRs:=hid (fun (W:World) (h:Mem.Mks W vm r.mks) => Mr.raise_any vm r.mks m.t W h (by omega));unfold tmV at HRs;have r0:=cell_at (K0.out _ b6.out) 0;have r1:=cell_at (K0.out _ b6.out) 1;have r2:=cell_at (K0.out _ b6.out) 2;have r3:=cell_at (K0.out _ b6.out) 3
    have r4:=cell_at (K0.out _ b6.out) 4;simp only [List.getElem?_toArray,List.getElem?_cons_zero,List.getElem?_cons_succ] at r0 r1 r2 r3 r4;have m0:=cell_at (K1.out _ b6.out) 0;have m1:=cell_at (K1.out _ b6.out) 1;have m2:=cell_at (K1.out _ b6.out) 2;have m3:=cell_at (K1.out _ b6.out) 3;have m4:=cell_at (K1.out _ b6.out) 4;have m5:=cell_at (K1.out _ b6.out) 5;simp only [List.getElem?_toArray,List.getElem?_cons_zero,List.getElem?_cons_succ] at m0 m1 m2 m3 m4 m5;go_wp2_with fail;refine (HRs.out _ (HR.out _ b6.out).m).mono ?_
    rintro e w7 ⟨⟨vm',rfl,hO7⟩,b7⟩;have e5':=e5.out;subst e5';obtain ⟨a7,k7,e7⟩:=(own_sl hO7).len;subst e7;have hnm:Hid (Near2 w w7 vm (.slice a7 (raiseM r.mks m.t).length k7)):=hid (near2_own hO7 (by have:=hnot.out.size;omega));have hI7:=hid (hI6.out.below b7);have hs67:=b7.size;replace hO7:=hid hO7;have b8:=hid (b6.out.trans (b7.mono b6.out.size));clear r0 r1 r2 r3 r4 m0 m1 m2 m3 m4 m5 HRs b7;have hs0':=hs0.out;have hsz8:=b8.out.size;have kk0:=K0.out _ b8.out;have kk2:=K2.out _ b8.out;have r0:=cell_at (K0.out _ b8.out) 0
    have r1:=cell_at (K0.out _ b8.out) 1;have r2:=cell_at (K0.out _ b8.out) 2;have r3:=cell_at (K0.out _ b8.out) 3;have r4:=cell_at (K0.out _ b8.out) 4;simp only [List.getElem?_toArray,List.getElem?_cons_zero,List.getElem?_cons_succ] at r0 r1 r2 r3 r4;have f3:w7.frozen? ⟨w.heap.size,3,none⟩ = false:=free_at kk0 3;have f4:w7.frozen? ⟨w.heap.size,4,none⟩ = false:=free_at kk0 4
    have k2:((w7.setCell ⟨w.heap.size,3,none⟩ (.slice a5 (insM r.log m).length k5)).setCell ⟨w.heap.size,4,none⟩ (.slice a7 (raiseM r.mks m.t).length k7)).heap[w.heap.size + 2]? = some (.cells #[.slice none 0 0,.int .i64 0,.int .i64 0,.slice none 0 0,.slice none 0 0] 34 (0,0)):=
     set_other (set_other kk2 (p:=⟨w.heap.size,3,none⟩) (by show w.heap.size + 2 ≠ w.heap.size;omega) _) (p:=⟨w.heap.size,4,none⟩) (by show w.heap.size + 2 ≠ w.heap.size;omega) _
    clear kk0 kk2
    have on2:Hid (∀ v ∈ [vb,.int .i64 r.fl.c,.int .i64 r.fl.r,.slice a5 (insM r.log m).length k5,.slice a7 (raiseM r.mks m.t).length k7],v.oneCell' = true):=hid (by
     rw [e1.out];intro v hv;simp only [List.mem_cons,List.not_mem_nil,or_false] at hv
     rcases hv with rfl | rfl | rfl | rfl | rfl <;> rfl)
    go_wp2_with (refine wpList_store_splice (by rfl) 34 _ _ (by rfl) (w.heap.size + 2) 0 [vb,.int .i64 r.fl.c,.int .i64 r.fl.r,.slice a5 (insM r.log m).length k5,.slice a7 (raiseM r.mks m.t).length k7] (by rfl) (by rfl) 34 [.slice none 0 0,.int .i64 0,.int .i64 0,.slice none 0 0,.slice none 0 0] k2 (info_rep.trans rfl) (by simp) on2.out ?_;intro w4 hg4 hB4 hO4)
    have hbw7:=hb0.out.trans (b8.out.mono hb0.out.size);have hb9:=hB4.out w.heap.size w ((hbw7.setCell (p:=⟨w.heap.size,3,none⟩) (Nat.le_refl _) _).setCell (p:=⟨w.heap.size,4,none⟩) (Nat.le_refl _) _) (by omega);refine bodyPost_ret (HRes.out _ w4 (.slice a5 (insM r.log m).length k5) (.slice a7 (raiseM r.mks m.t).length k7) rfl (hg4.out.trans rfl)) rfl ?_
    rw [hq.out]
    have hsw:w.heap.size + 3 ≤ w7.heap.size:=by omega
    have hs9:=hb9.size
    have hoth:∀ k,k ≠ w.heap.size → k ≠ w.heap.size + 2 → w4.heap[k]? = w7.heap[k]?:=fun k h1 h2 => (hO4.out k h2).trans ((setCell_heap_other (by show k ≠ w.heap.size;omega)).trans (setCell_heap_other (by show k ≠ w.heap.size;omega)))
    have hs47:w7.heap.size ≤ w4.heap.size:=by have:=(hB4.out 0 _ (Below.refl 0 _) (Nat.zero_le _)).size;simpa [World.setCell] using this
    have hb3':=HRw.out.below hb9;have hl1:=hl3.out;have hs06:=b6.out.size;have hm1:=hO7.out.lt;exact ⟨⟨vb,_,_,rfl,⟨⟨hb3'.b,sl_same hI7.out hs47 (fun k e _ => hoth k (by have:=hl1 k e;omega) (by have:=hl1 k e;omega)),sl_same (own_sl hO7.out) hs47 (fun k e _ => hoth k (by have:=(hm1 k e).1;omega) (by have:=(hm1 k e).1;omega)),hb3'.xb,(fun k e => by have:=hl1 k e;omega),(fun k e => by have:=(hm1 k e).2;omega)⟩,near2_refl _ _ _,hnl'.out.mono (Nat.le_refl _) (by omega),hnm.out.mono (Nat.le_refl _) hs47⟩⟩,hb9⟩
end Fo
end
section
open Go.RowKit
attribute [local go_sem] Fl.run_store_float
namespace Fo
open Mem Tp Tr Mo
theorem since_len (l:List Mv) (t:Tm):(since l t).length ≤ l.length:=List.length_filter_le _ _
def pruneR (r:Rp) (t:Tm):Rp × Int:=
 if ¬ knownT r.mks t then (r,1) else if bef r.fl t = false then (r,0)
 else (⟨foldM r.base (r.log.take (r.log.length - (since r.log t).length)),t,since r.log t,r.mks⟩,0)
theorem sl_take {W:World} {a:Option Addr} {n c:Nat} {l:List Mv} (h:Mem.Mvs W (.slice a n c) l) {k:Nat} (hk:k ≤ l.length):Mem.Mvs W (.slice a k c) (l.take k):=by
 have hn:=h.cap.2;obtain ⟨a',cap,e,h1,h2,h3⟩:=h
 cases e
 have hl:(l.take k).length = k:=by rw [List.length_take];omega
 refine ⟨a,c,by rw [hl],by omega,h2,fun h0 => ?_⟩
 obtain ⟨b,off,e1,e2,e3⟩:=h3 (by omega);refine ⟨b,off,e1,e2,fun j u hu => e3 j u ?_⟩
 have hj:=(List.getElem?_eq_some_iff.1 hu).1;rw [flat_length movC_len,hl] at hj;rw [Tr.flat_take movC_len,List.getElem?_take_of_lt hj] at hu;exact hu
theorem run_slice_head {T E:TypeId} (hT:Tryz.prog.underlying T = some (.slice E)) (hE:(Tryz.prog.info? E).isSome = true) (a:Option Addr) (n k c:Nat) (hk:k ≤ c) (w:World) :
  (Instr.slice T (.slice a n c) none (some (.int .i64 (k:Int))) none).run Tryz.prog w = .ok (.slice a k c) w:=by
 obtain ⟨i,hi⟩:=Option.isSome_iff_exists.1 hE;simp [Instr.slice,Instr.sliceBounds,Instr.sliceBound,asIntOf,run_underlying hT,Sem.run_bind,Sem.run_pure,Result.andThen_ok,sizeOf,typeInfo,hi,hk,go_sem]
structure PrC (w:World) (r:Rp) (t:Tm) (vb vm:Value) (fl:Tm) (vl va:Value) (wx:World) (vb':Value) (bs:List Rw) (ls:List Mv):Prop where
 c:wx.heap[w.heap.size]? = some (.cells #[vb',.int .i64 fl.c,.int .i64 fl.r,vl,vm] 34 (0,0))
 tm:wx.heap[w.heap.size + 1]? = some (.cells #[.int .i64 t.c,.int .i64 t.r] 24 (0,0))
 z:wx.heap[w.heap.size + 2]? = some (.cells #[.slice none 0 0,.int .i64 0,.int .i64 0,.slice none 0 0,.slice none 0 0] 34 (0,0))
 bs:Mem.Rows wx vb' bs
 ls:Mem.Mvs wx va ls
 nb:Near2 w wx vb vb'
 xb:∀ k,vb'.ownBlock = some k → k < w.heap.size ∨ (w.heap.size + 3 ≤ k ∧ k < wx.heap.size)
 xl:∀ k,va.ownBlock = some k → w.heap.size + 3 ≤ k ∧ k < wx.heap.size
 be:Below w.heap.size w wx
 lo:w.heap.size + 3 ≤ wx.heap.size
theorem prC_mk {w W0 w5 w6:World} {r:Rp} {t:Tm} {vb vm vl va:Value} {a6:Option Addr} {n6 k6:Nat} {bs:List Rw} {ls:List Mv} {B3:Nat} (hs0:W0.heap.size = w.heap.size + 3) (hb0:Below w.heap.size w W0) (b5:Below W0.heap.size W0 w5) (b6:Below W0.heap.size W0 w6)
  (q0:w6.heap[w.heap.size]? = some (.cells #[vb,.int .i64 r.fl.c,.int .i64 r.fl.r,vl,vm] 34 (0,0)))
  (q1:w6.heap[w.heap.size + 1]? = some (.cells #[.int .i64 t.c,.int .i64 t.r] 24 (0,0)))
  (q2:w6.heap[w.heap.size + 2]? = some (.cells #[.slice none 0 0,.int .i64 0,.int .i64 0,.slice none 0 0,.slice none 0 0] 34 (0,0)))
  (hB:Mem.Rows w6 (.slice a6 n6 k6) bs) (hO:Mem.Mvs w6 va ls) (hn:Near2 w5.drew w6 vb (.slice a6 n6 k6)) (hs56:w5.drew.heap.size ≤ w6.heap.size) (hxl:∀ k,va.ownBlock = some k → B3 + 1 ≤ k ∧ k < w5.heap.size) (hB3:w.heap.size + 3 ≤ B3) (hR:RepW w vb vl vm r) :
  PrC w r t vb vm r.fl vl va (w6.setCell ⟨w.heap.size,0,none⟩ (.slice a6 n6 k6)) (.slice a6 n6 k6) bs ls:=by
 have h5:=b5.size
 have hz:(w6.setCell ⟨w.heap.size,0,none⟩ (.slice a6 n6 k6)).heap.size = w6.heap.size:=by simp [World.setCell]
 have hlo:w.heap.size + 3 ≤ w5.heap.size:=by omega
 have hs56':w5.heap.size ≤ w6.heap.size:=hs56
 have hxb:∀ k,Value.ownBlock (.slice a6 n6 k6) = some k → k < w.heap.size ∨ (w.heap.size + 3 ≤ k ∧ k < w6.heap.size):=fun k e => by
  rcases hn k e with h | h
  ·exact .inl (hR.xb k h)
  ·exact .inr ⟨Nat.le_trans hlo h.1,h.2⟩
 have hxa:∀ k,va.ownBlock = some k → w.heap.size + 3 ≤ k ∧ k < w6.heap.size:=fun k e => by have:=hxl k e;omega
 refine ⟨(set_at q0 0 _).trans rfl,set_other q1 (p:=⟨w.heap.size,0,none⟩) (by show w.heap.size + 1 ≠ w.heap.size;omega) _,set_other q2 (p:=⟨w.heap.size,0,none⟩) (by show w.heap.size + 2 ≠ w.heap.size;omega) _,
  sl_same hB (by omega) (fun k e _ => setCell_heap_other (by show k ≠ w.heap.size;have:=hxb k e;omega)),sl_same hO (by omega) (fun k e _ => setCell_heap_other (by show k ≠ w.heap.size;have:=hxa k e;omega)),
  fun k e => ?_,fun k e => by have:=hxb k e;omega,fun k e => by have:=hxa k e;omega,(hb0.trans (b6.mono hb0.size)).setCell (p:=⟨w.heap.size,0,none⟩) (Nat.le_refl _) _,by omega⟩
 rcases hn k e with h | h
 ·exact .inl h
 ·exact .inr ⟨by have:w5.heap.size ≤ k:=h.1;omega,by omega⟩
theorem prC_set {w wx:World} {r:Rp} {t:Tm} {vb vm vl va vb':Value} {fl:Tm} {bs:List Rw} {ls:List Mv} (h:PrC w r t vb vm fl vl va wx vb' bs ls) :
  PrC w r t vb vm t va va (((wx.setCell ⟨w.heap.size,3,none⟩ va).setCell ⟨w.heap.size,1,none⟩ (.int .i64 t.c)).setCell ⟨w.heap.size,2,none⟩ (.int .i64 t.r)).drew vb' bs ls:=by
 obtain ⟨W,hW⟩:∃ W,(((wx.setCell ⟨w.heap.size,3,none⟩ va).setCell ⟨w.heap.size,1,none⟩ (.int .i64 t.c)).setCell ⟨w.heap.size,2,none⟩ (.int .i64 t.r)).drew = W:=⟨_,rfl⟩
 have hz:W.heap.size = wx.heap.size:=by rw [← hW];simp [World.setCell]
 have hoth:∀ k,k ≠ w.heap.size → W.heap[k]? = wx.heap[k]?:=fun k hk => by
  rw [← hW];exact (setCell_heap_other (p:=⟨w.heap.size,2,none⟩) hk).trans ((setCell_heap_other (p:=⟨w.heap.size,1,none⟩) hk).trans (setCell_heap_other (p:=⟨w.heap.size,3,none⟩) hk))
 have hc:W.heap[w.heap.size]? = some (.cells #[vb',.int .i64 t.c,.int .i64 t.r,va,vm] 34 (0,0)):=by
  rw [← hW];exact (set_at (set_at (set_at h.c 3 va) 1 (.int .i64 t.c)) 2 (.int .i64 t.r)).trans rfl
 have hbe:Below w.heap.size w W:=by
  rw [← hW];exact (((h.be.setCell (p:=⟨w.heap.size,3,none⟩) (Nat.le_refl _) _).setCell (p:=⟨w.heap.size,1,none⟩) (Nat.le_refl _) _).setCell (p:=⟨w.heap.size,2,none⟩) (Nat.le_refl _) _).drew
 rw [hW];have hxb:=h.xb;have hxl:=h.xl
 exact ⟨hc,(hoth _ (by omega)).trans h.tm,(hoth _ (by omega)).trans h.z,sl_same h.bs (by omega) (fun k e _ => hoth k (by have:=hxb k e;omega)),sl_same h.ls (by omega) (fun k e _ => hoth k (by have:=hxl k e;omega)),
  h.nb.mono (Nat.le_refl _) (by omega),fun k e => by have:=hxb k e;omega,fun k e => by have:=hxl k e;omega,hbe,by have:=h.lo;omega⟩
theorem prune_any (vb vl vm:Value) (r:Rp) (t:Tm) (w:World) (hR:RepW w vb vl vm r) (hW:WfR r) :
  Calls Tryz.prog 13 #[repV vb r.fl vl vm,tmV t] w fun e w' => (∃ vb' vl' vm',e = .returned (.tuple #[repV vb' (pruneR r t).1.fl vl' vm',.int .i64 (pruneR r t).2]) ∧ Back w w' vb vl vm vb' vl' vm' (pruneR r t).1) ∧ Below w.heap.size w w':=by
 have h1:=hW.len;have h2:=hW.mlen;obtain ⟨W0,hW0⟩:∃ W0,((w.alloc (.cells #[vb,.int .i64 r.fl.c,.int .i64 r.fl.r,vl,vm] 34)).alloc (.cells #[.int .i64 t.c,.int .i64 t.r] 24)).alloc (.cells #[.slice none 0 0,.int .i64 0,.int .i64 0,.slice none 0 0,.slice none 0 0] 34) = W0:=⟨_,rfl⟩;have hL:lay w [.cells #[vb,.int .i64 r.fl.c,.int .i64 r.fl.r,vl,vm] 34,.cells #[.int .i64 t.c,.int .i64 t.r] 24,.cells #[.slice none 0 0,.int .i64 0,.int .i64 0,.slice none 0 0,.slice none 0 0] 34] = W0:=hW0
 have hb0:Below w.heap.size w W0:=by rw [← hL];exact lay_below _ _
 have hs0:W0.heap.size = w.heap.size + 3:=by rw [← hL];exact lay_size _ _
 have g0:W0.heap[w.heap.size]? = some (.cells #[vb,.int .i64 r.fl.c,.int .i64 r.fl.r,vl,vm] 34 (0,0)):=by rw [← hL];exact lay_at _ w 0 _ rfl
 have g1:W0.heap[w.heap.size + 1]? = some (.cells #[.int .i64 t.c,.int .i64 t.r] 24 (0,0)):=by rw [← hL];exact lay_at _ w 1 _ rfl
 have g2:W0.heap[w.heap.size + 2]? = some (.cells #[.slice none 0 0,.int .i64 0,.int .i64 0,.slice none 0 0,.slice none 0 0] 34 (0,0)):=by rw [← hL];exact lay_at _ w 2 _ rfl
 have hR0:=hR.below hb0;have HM:=hid (may_ok vb vl vm r W0 hR0 hW);unfold repV at HM;obtain ⟨a1,k1,e1⟩:=hR.b.len;obtain ⟨a2,k2,e2⟩:=hR.l.len;obtain ⟨a3,k3,e3⟩:=hR.m.len
 have K0:∀ W,Below W0.heap.size W0 W → W.heap[w.heap.size]? = some (.cells #[vb,.int .i64 r.fl.c,.int .i64 r.fl.r,vl,vm] 34 (0,0)):=fun W h => below_at h g0 (by omega)
 have K1:∀ W,Below W0.heap.size W0 W → W.heap[w.heap.size + 1]? = some (.cells #[.int .i64 t.c,.int .i64 t.r] 24 (0,0)):=fun W h => below_at h g1 (by omega)
 have K2:∀ W,Below W0.heap.size W0 W → W.heap[w.heap.size + 2]? = some (.cells #[.slice none 0 0,.int .i64 0,.int .i64 0,.slice none 0 0,.slice none 0 0] 34 (0,0)):=fun W h => below_at h g2 (by omega)
 replace K0:=hid K0;replace K1:=hid K1;replace K2:=hid K2;have HR:=hid (fun (W:World) (h:Below W0.heap.size W0 W) => hR0.below h);replace e1:=hid e1;replace e2:=hid e2;replace e3:=hid e3;replace hb0:=hid hb0;replace hs0:=hid hs0;replace hL:=hid hW0;have c0:W0.cell? ⟨w.heap.size,0,none⟩ = some vb:=cell_at g0 0;have c1:W0.cell? ⟨w.heap.size,1,none⟩ = some (.int .i64 r.fl.c):=cell_at g0 1;have c2:W0.cell? ⟨w.heap.size,2,none⟩ = some (.int .i64 r.fl.r):=cell_at g0 2;have c3:W0.cell? ⟨w.heap.size,3,none⟩ = some vl:=cell_at g0 3
 have c4:W0.cell? ⟨w.heap.size,4,none⟩ = some vm:=cell_at g0 4;have HRw:=hid hR;have HWr:=hid hW;clear g0 g1 g2 hW0 hR hR0 hW;have HRes:=hid (fun (tmps:Array Value) (W:World) (fl:Tm) (vb' vl':Value) h h' => rep_results2 Tryz.f13 5 rfl tmps W (w.heap.size + 2) fl vb' vl' vm h h');obtain ⟨Q,hQ⟩:∃ Q:Rp × Int,pruneR r t = Q:=⟨_,rfl⟩;rw [hQ];replace hQ:=hid hQ;unfold repV tmV;go_enter Tryz.func13,Tryz.ntmps13;go_wp2_with fail;rw [hL.out];refine HM.out.mono ?_
 rintro e w1 ⟨rfl,b1⟩;replace b1:=hid b1;clear c0 c1 c2 c3 c4 HM hL
 have ones:Hid (∀ v ∈ [vb,.int .i64 r.fl.c,.int .i64 r.fl.r,vl,vm],v.oneCell' = true):=hid (by
  rw [e1.out,e2.out,e3.out];intro v hv;simp only [List.mem_cons,List.not_mem_nil,or_false] at hv
  rcases hv with rfl | rfl | rfl | rfl | rfl <;> rfl)
 have r0:=cell_at (K0.out _ b1.out) 0;have r1:=cell_at (K0.out _ b1.out) 1;have r2:=cell_at (K0.out _ b1.out) 2;have r3:=cell_at (K0.out _ b1.out) 3;have r4:=cell_at (K0.out _ b1.out) 4;simp only [List.getElem?_toArray,List.getElem?_cons_zero,List.getElem?_cons_succ] at r0 r1 r2 r3 r4;have m0:=cell_at (K1.out _ b1.out) 0;have m1:=cell_at (K1.out _ b1.out) 1;simp only [List.getElem?_toArray,List.getElem?_cons_zero,List.getElem?_cons_succ] at m0 m1;have HK:=hid (known_any vm r.mks t w1 (HR.out _ b1.out).m (by omega));unfold tmV at HK;go_wp2_with fail;refine HK.out.mono ?_
 rintro e w2 ⟨rfl,b2⟩;replace b2:=hid (b1.out.trans (b2.mono b1.out.size));clear r0 r1 r2 r3 r4 m0 m1 HK
 cases hkn:decide (knownT r.mks t)
 ·have hq:Hid (Q = (r,1)):=hid (by rw [← hQ.out];unfold pruneR;rw [if_pos (of_decide_eq_false hkn)])
  have k2:=K2.out _ b2.out;have hsz:=b2.out.size;have hs0':=hs0.out;have r0:=cell_at (K0.out _ b2.out) 0;have r1:=cell_at (K0.out _ b2.out) 1;have r2:=cell_at (K0.out _ b2.out) 2;have r3:=cell_at (K0.out _ b2.out) 3;have r4:=cell_at (K0.out _ b2.out) 4;simp only [List.getElem?_toArray,List.getElem?_cons_zero,List.getElem?_cons_succ] at r0 r1 r2 r3 r4
  go_wp2_with (refine wpList_store_splice (by rfl) 34 _ _ (by rfl) (w.heap.size + 2) 0 [vb,.int .i64 r.fl.c,.int .i64 r.fl.r,vl,vm] (by rfl) (by rfl) 34 [.slice none 0 0,.int .i64 0,.int .i64 0,.slice none 0 0,.slice none 0 0] k2 (info_rep.trans rfl) (by simp) ones.out ?_;intro w4 hg4 hB4 hO4)
  have hb9:=hB4.out w.heap.size w (hb0.out.trans (b2.out.mono hb0.out.size)) (by omega);refine bodyPost_ret (HRes.out _ w4 r.fl vb vl rfl (hg4.out.trans rfl)) rfl ?_
  rw [hq.out];exact ⟨⟨vb,vl,vm,rfl,Back.refl (HRw.out.below hb9)⟩,hb9⟩
 ·have r0:=cell_at (K0.out _ b2.out) 0
  have r1:=cell_at (K0.out _ b2.out) 1;have r2:=cell_at (K0.out _ b2.out) 2;have r3:=cell_at (K0.out _ b2.out) 3;have r4:=cell_at (K0.out _ b2.out) 4;simp only [List.getElem?_toArray,List.getElem?_cons_zero,List.getElem?_cons_succ] at r0 r1 r2 r3 r4;have m0:=cell_at (K1.out _ b2.out) 0;have m1:=cell_at (K1.out _ b2.out) 1;simp only [List.getElem?_toArray,List.getElem?_cons_zero,List.getElem?_cons_succ] at m0 m1;have HBf:=hid (Fl.before_any r.fl.c r.fl.r t.c t.r w2);go_wp2_with fail;refine HBf.out.mono ?_
  rintro e w3 ⟨rfl,b3⟩;replace b3:=hid (b2.out.trans (b3.mono b2.out.size));rw [Mo.ahead_bef];clear r0 r1 r2 r3 r4 m0 m1 HBf b2
  cases hbf:bef r.fl t
  ·have hq:Hid (Q = (r,0)):=hid (by rw [← hQ.out];unfold pruneR;rw [if_neg (fun h => h (of_decide_eq_true hkn)),if_pos hbf])
   have k2:=K2.out _ b3.out;have hsz:=b3.out.size;have hs0':=hs0.out;have r0:=cell_at (K0.out _ b3.out) 0;have r1:=cell_at (K0.out _ b3.out) 1;have r2:=cell_at (K0.out _ b3.out) 2;have r3:=cell_at (K0.out _ b3.out) 3;have r4:=cell_at (K0.out _ b3.out) 4;simp only [List.getElem?_toArray,List.getElem?_cons_zero,List.getElem?_cons_succ] at r0 r1 r2 r3 r4
   go_wp2_with (refine wpList_store_splice (by rfl) 34 _ _ (by rfl) (w.heap.size + 2) 0 [vb,.int .i64 r.fl.c,.int .i64 r.fl.r,vl,vm] (by rfl) (by rfl) 34 [.slice none 0 0,.int .i64 0,.int .i64 0,.slice none 0 0,.slice none 0 0] k2 (info_rep.trans rfl) (by simp) ones.out ?_;intro w4 hg4 hB4 hO4)
   have hb9:=hB4.out w.heap.size w (hb0.out.trans (b3.out.mono hb0.out.size)) (by omega);refine bodyPost_ret (HRes.out _ w4 r.fl vb vl rfl (hg4.out.trans rfl)) rfl ?_
   rw [hq.out];exact ⟨⟨vb,vl,vm,rfl,Back.refl (HRw.out.below hb9)⟩,hb9⟩
  ·have hq:Hid (Q = (⟨foldM r.base (r.log.take (r.log.length - (since r.log t).length)),t,since r.log t,r.mks⟩,0)):=hid (by rw [← hQ.out];unfold pruneR;rw [if_neg (fun h => h (of_decide_eq_true hkn)),if_neg (by rw [hbf];decide)])
   have hsl:=since_len r.log t;have r0:=cell_at (K0.out _ b3.out) 0;have r1:=cell_at (K0.out _ b3.out) 1;have r2:=cell_at (K0.out _ b3.out) 2;have r3:=cell_at (K0.out _ b3.out) 3;have r4:=cell_at (K0.out _ b3.out) 4;simp only [List.getElem?_toArray,List.getElem?_cons_zero,List.getElem?_cons_succ] at r0 r1 r2 r3 r4;have m0:=cell_at (K1.out _ b3.out) 0;have m1:=cell_at (K1.out _ b3.out) 1;simp only [List.getElem?_toArray,List.getElem?_cons_zero,List.getElem?_cons_succ] at m0 m1;have HS:=hid (Mo.since_any vl r.log t w3 (HR.out _ b3.out).l (by omega))
   unfold tmV at HS;go_wp2_with fail;refine HS.out.mono ?_
   rintro e w5 ⟨⟨vl',rfl,hO⟩,b5⟩;have b35:=hid b5;replace b5:=hid (b3.out.trans (b5.mono b3.out.size));obtain ⟨a5,k5,e5⟩:=(own_sl hO).len;subst e5;have hO2:=hid (show Mem.Mvs w5.drew (.slice a5 (since r.log t).length k5) (since r.log t) from own_sl hO);have hxl:=hid hO.lt;replace hO:=hid hO;clear r0 r1 r2 r3 r4 m0 m1 HS;have e2':=e2.out;subst e2';have r0:=cell_at (K0.out _ b5.out) 0;have r1:=cell_at (K0.out _ b5.out) 1;have r2:=cell_at (K0.out _ b5.out) 2;have r3:=cell_at (K0.out _ b5.out) 3;have r4:=cell_at (K0.out _ b5.out) 4
   simp only [List.getElem?_toArray,List.getElem?_cons_zero,List.getElem?_cons_succ] at r0 r1 r2 r3 r4;have m0:=cell_at (K1.out _ b5.out) 0;have m1:=cell_at (K1.out _ b5.out) 1;simp only [List.getElem?_toArray,List.getElem?_cons_zero,List.getElem?_cons_succ] at m0 m1;generalize hn:(since r.log t).length = n at *;replace hn:=hid hn
   have hw1:IntKind.i64.wrap ((r.log.length:Int) - (n:Int)) = ((r.log.length - n:Nat):Int):=by rw [IntKind.wrap_i64];omega
   have hkk:=(HR.out _ b5.out).l.cap.1;have f0:w5.frozen? ⟨w.heap.size,0,none⟩ = false:=free_at (K0.out _ b5.out) 0;have HF:=hid (fun (W:World) (u:Value) (h:Below W0.heap.size W0 W) (k:Mem.Mvs W u (r.log.take (r.log.length - n))) => Fd.all_any vb u r.base (r.log.take (r.log.length - n)) W (HR.out _ h).b k (by omega) (by rw [List.length_take];omega) ⟨rise_nodup HWr.out.rise,fun x h => oneR_r (HWr.out.one x h)⟩ (fun m h => oneR_r (oneM_in (HWr.out.lone m (List.mem_of_mem_take h))).2))
   have HT:=hid (fun (W:World) (h:Below W0.heap.size W0 W) => sl_take (HR.out _ h).l (show r.log.length - n ≤ r.log.length by omega))
   have hmin:min (r.log.length - n) r.log.length = r.log.length - n:=by omega
   have hsl2:∀ W:World,(Instr.slice 25 (.slice a2 r.log.length k2) none (some (.int .i64 ((r.log.length - n:Nat):Int))) none).run Tryz.prog W = .ok (.slice a2 (r.log.length - n) k2) W:=fun W => run_slice_head Tryz.underlying25 (by kernel_rfl) a2 _ _ k2 (by omega) W
   go_upto_region 6 with fail
   go_cut [] (fun wx => ∃ vb',Hid (PrC w r t vb vm r.fl (.slice a2 r.log.length k2) (.slice a5 n k5) wx vb' (foldM r.base (r.log.take (r.log.length - n))) (since r.log t)))
   case first =>
    go_region_with ((go_at_call 40;(refine (HF.out _ _ (b5.out.drew) (HT.out _ b5.out.drew)).mono ?_);rintro e w6 ⟨⟨vb',rfl,hB6,hn6⟩,b6⟩;obtain ⟨a6,k6,e6⟩:=hB6.len;subst e6;have hs56:=b6.size;have hO6:=hid (Sl.below hO2.out b6);replace b6:=hid (b5.out.drew.trans (b6.mono b5.out.size));have f6:w6.frozen? ⟨w.heap.size,0,none⟩ = false:=free_at (K0.out _ b6.out) 0;have c6:=(show w6.cell? ⟨w.heap.size,0,none⟩ = some vb from cell_at (K0.out _ b6.out) 0);replace hB6:=hid hB6;replace hn6:=hid hn6))
    all_goals
     go_wp2_with fail
     go_meet
     have q0:=K0.out _ b6.out;refine ⟨.slice a6 (foldM r.base (r.log.take (r.log.length - n))).length k6,hid (prC_mk hs0.out hb0.out b5.out b6.out q0 (K1.out _ b6.out) (K2.out _ b6.out) hB6.out hO6.out hn6.out hs56 hxl.out (by have:=b3.out.size;have:=hs0.out;omega) HRw.out)⟩
   case rest =>
    obtain ⟨vb',hC⟩:=hcut;clear HF HT hsl2 hmin hw1 r0 r1 r2 r3 r4 m0 m1 f0
    go_upto_region 7 with fail
    go_cut [] (fun wx => Hid (PrC w r t vb vm t (.slice a5 n k5) (.slice a5 n k5) wx vb' (foldM r.base (r.log.take (r.log.length - n))) (since r.log t)))
    case first =>
     have c1:=(show wc.cell? ⟨w.heap.size,1,none⟩ = some (.int .i64 r.fl.c) from cell_at hC.out.c 1);have c2:=(show wc.cell? ⟨w.heap.size,2,none⟩ = some (.int .i64 r.fl.r) from cell_at hC.out.c 2);have c3:=(show wc.cell? ⟨w.heap.size,3,none⟩ = some (.slice a2 r.log.length k2) from cell_at hC.out.c 3);have t0:=(show wc.cell? ⟨w.heap.size + 1,0,none⟩ = some (.int .i64 t.c) from cell_at hC.out.tm 0);have t1:=(show wc.cell? ⟨w.heap.size + 1,1,none⟩ = some (.int .i64 t.r) from cell_at hC.out.tm 1)
     have f1:wc.frozen? ⟨w.heap.size,1,none⟩ = false:=free_at hC.out.c 1;have f2:wc.frozen? ⟨w.heap.size,2,none⟩ = false:=free_at hC.out.c 2;have f3:wc.frozen? ⟨w.heap.size,3,none⟩ = false:=free_at hC.out.c 3
     go_region
     all_goals
      go_wp2_with fail
      go_meet
      exact hid (prC_set hC.out)
    case rest =>
     have hP:=hcut;clear hcut;have r0:=(show wc.cell? ⟨w.heap.size,0,none⟩ = some vb' from cell_at hP.out.c 0);have r1:=(show wc.cell? ⟨w.heap.size,1,none⟩ = some (.int .i64 t.c) from cell_at hP.out.c 1);have r2:=(show wc.cell? ⟨w.heap.size,2,none⟩ = some (.int .i64 t.r) from cell_at hP.out.c 2);have r3:=(show wc.cell? ⟨w.heap.size,3,none⟩ = some (.slice a5 n k5) from cell_at hP.out.c 3);have r4:=(show wc.cell? ⟨w.heap.size,4,none⟩ = some vm from cell_at hP.out.c 4);have k2:=hP.out.z
     have on2:Hid (∀ v ∈ [vb',.int .i64 t.c,.int .i64 t.r,.slice a5 n k5,vm],v.oneCell' = true):=hid (by
      obtain ⟨ab,kb,eb⟩:=hP.out.bs.len;rw [e3.out,eb];intro v hv;simp only [List.mem_cons,List.not_mem_nil,or_false] at hv
      rcases hv with rfl | rfl | rfl | rfl | rfl <;> rfl)
     go_wp2_with (refine wpList_store_splice (by rfl) 34 _ _ (by rfl) (w.heap.size + 2) 0 [vb',.int .i64 t.c,.int .i64 t.r,.slice a5 n k5,vm] (by rfl) (by rfl) 34 [.slice none 0 0,.int .i64 0,.int .i64 0,.slice none 0 0,.slice none 0 0] k2 (info_rep.trans rfl) (by simp) on2.out ?_;intro w4 hg4 hB4 hO4)
     have hb9:=hB4.out w.heap.size w hP.out.be (by omega);have hs9:wc.heap.size ≤ w4.heap.size:=(hB4.out 0 _ (Below.refl 0 _) (Nat.zero_le _)).size;refine bodyPost_ret (HRes.out _ w4 t vb' (.slice a5 n k5) rfl (hg4.out.trans rfl)) rfl ?_
     rw [hq.out];have hR9:=HRw.out.below hb9;have hxb:=hP.out.xb;have hxa:=hP.out.xl;exact ⟨⟨_,_,_,rfl,⟨⟨sl_same hP.out.bs hs9 (fun k e _ => hO4.out k (by have:=hxb k e;omega)),sl_same hP.out.ls hs9 (fun k e _ => hO4.out k (by have:=hxa k e;omega)),hR9.m,(fun k e => by have:=hxb k e;have:=hb9.size;omega),(fun k e => by have:=hxa k e;omega),hR9.xm⟩,hP.out.nb.mono (Nat.le_refl _) hs9,(fun k e => .inr (by have:=hxa k e;omega)),near2_refl _ _ _⟩⟩,hb9⟩
end Fo
end
section
namespace Iv
open Tp Tr Mo Fo
theorem pigeon {α:Type} [DecidableEq α]:∀ (L M:List α),L.Nodup → (∀ x ∈ L,x ∈ M) → L.length ≤ M.length
 | [],_,_,_ => Nat.zero_le _
 | x :: L,M,hn,hs => by
  rw [List.nodup_cons] at hn;have hx:x ∈ M:=hs x List.mem_cons_self;have h1:=pigeon L (M.erase x) hn.2 (fun y hy => (List.mem_erase_of_ne (by rintro rfl;exact hn.1 hy)).2 (hs y (List.mem_cons_of_mem _ hy)));rw [List.length_erase_of_mem hx] at h1;have h2:=List.length_pos_of_mem hx;rw [List.length_cons];omega
def ins {α:Type} (p:α → Bool) (x:α) (l:List α):List α:=l.take (l.findIdx p) ++ x :: l.drop (l.findIdx p)
theorem ins_nil {α:Type} (p:α → Bool) (x:α):ins p x [] = [x]:=rfl
theorem ins_yes {α:Type} {p:α → Bool} (x:α) {a:α} (l:List α) (h:p a = true):ins p x (a :: l) = x :: a :: l:=by
 unfold ins;rw [List.findIdx_cons,h]
 rfl
theorem ins_no {α:Type} {p:α → Bool} (x:α) {a:α} (l:List α) (h:p a = false):ins p x (a :: l) = a :: ins p x l:=by
 unfold ins;rw [List.findIdx_cons,h]
 rfl
theorem mem_ins {α:Type} {p:α → Bool} {x y:α} {l:List α}:y ∈ ins p x l ↔ y = x ∨ y ∈ l:=by
 unfold ins;rw [List.mem_append,List.mem_cons]
 conv => rhs;rw [← List.take_append_drop (l.findIdx p) l,List.mem_append]
 constructor
 ·rintro (h | h | h)
  ·exact .inr (.inl h)
  ·exact .inl h
  ·exact .inr (.inr h)
 ·rintro (h | h | h)
  ·exact .inr (.inl h)
  ·exact .inl h
  ·exact .inr (.inr h)
theorem len_ins {α:Type} (p:α → Bool) (x:α) (l:List α):(ins p x l).length = l.length + 1:=by
 unfold ins;have:=congrArg List.length (List.take_append_drop (l.findIdx p) l);rw [List.length_append] at this ⊢;rw [List.length_cons];omega
theorem ins_sorted {α:Type} {R:α → α → Prop} {p:α → Bool} {x:α}:∀ {l:List α},l.Pairwise R → (∀ y ∈ l,p y = false → R y x) → (∀ y ∈ l,p y = true → R x y) → (∀ y z,R y z → p y = true → p z = true) → (ins p x l).Pairwise R
 | [],_,_,_,_ => by rw [ins_nil];exact List.pairwise_singleton ..
 | a :: l,hl,h1,h2,ht => by
  rw [List.pairwise_cons] at hl
  by_cases h:p a = true
  ·rw [ins_yes x l h]
   refine List.pairwise_cons.2 ⟨fun y hy => ?_,List.pairwise_cons.2 hl⟩
   rcases List.mem_cons.1 hy with rfl | hy'
   ·exact h2 _ List.mem_cons_self h
   ·exact h2 _ hy (ht _ _ (hl.1 y hy') h)
  ·replace h:p a = false:=by simpa using h
   rw [ins_no x l h];refine List.pairwise_cons.2 ⟨fun y hy => ?_,ins_sorted hl.2 (fun y hy => h1 y (List.mem_cons_of_mem _ hy)) (fun y hy => h2 y (List.mem_cons_of_mem _ hy)) ht⟩
   rcases mem_ins.1 hy with rfl | hy'
   ·exact h1 _ List.mem_cons_self h
   ·exact hl.1 y hy'
structure TreeP (l:List Rw):Prop where
 rise:l.Pairwise (fun a b => a.ch < b.ch)
 one:∀ x ∈ l,oneR x = true
 dep:∃ d:Int → Nat,∀ x ∈ l,d x.pa < d x.ch
theorem treeP_nil:TreeP []:=⟨List.Pairwise.nil,fun _ h => by simp at h,⟨fun _ => 0,fun _ h => by simp at h⟩⟩
theorem up_mem {l:List Rw} {x p:Int} (h:up l x = some p):∃ r ∈ l,r.ch = x ∧ r.pa = p:=by
 unfold up at h;obtain ⟨r,h1,h2⟩:=Option.map_eq_some_iff.1 h;exact ⟨r,List.mem_of_find?_eq_some h1,by simpa using List.find?_some h1,h2⟩
theorem up_of {l:List Rw} (hr:l.Pairwise (fun a b => a.ch < b.ch)) {r:Rw} (h:r ∈ l):up l r.ch = some r.pa:=by
 unfold up
 have:l.find? (fun x => x.ch == r.ch) = some r:=by
  induction l with
  | nil => simp at h
  | cons a l ih =>
   rw [List.pairwise_cons] at hr
   rcases List.mem_cons.1 h with rfl | h'
   ·rw [List.find?_cons_of_pos (by simp)]
   ·have:=hr.1 r h'
    rw [List.find?_cons_of_neg (by simp;omega)];exact ih hr.2 h'
 rw [this]
 rfl
theorem chain_d {l:List Rw} {d:Int → Nat} (hd:∀ x ∈ l,d x.pa < d x.ch) {a:Int}:∀ (n:Nat) (x:Int),a ∈ chain l n x → d a < d x
 | 0,_,h => by simp [chain] at h
 | n + 1,x,h => by
  rw [chain] at h
  cases hu:up l x with
  | none => rw [hu] at h;simp at h
  | some p =>
   rw [hu] at h;obtain ⟨r,hr,e1,e2⟩:=up_mem hu;have:=hd r hr;rw [e1,e2] at this
   rcases List.mem_cons.1 h with rfl | h
   ·exact this
   ·have:=chain_d hd n p h
    omega
theorem above_no {l:List Rw} (hd:∃ d:Int → Nat,∀ x ∈ l,d x.pa < d x.ch) (x:Int):above l x x = false:=by
 obtain ⟨d,hd⟩:=hd;unfold above
 by_cases h:(chain l l.length x).contains x = true
 ·have:=chain_d hd _ _ (List.contains_iff_mem.1 h)
  omega
 ·simpa using h
def srcs (l:List Rw):Nat → Int → List Int
 | 0,_ => []
 | n + 1,x => match up l x with
  | none => []
  | some p => x :: srcs l n p
theorem srcs_len (l:List Rw):∀ (n:Nat) (x:Int),(srcs l n x).length = (chain l n x).length
 | 0,_ => rfl
 | n + 1,x => by
  rw [srcs,chain]
  cases up l x with
  | none => rfl
  | some p => simp only [List.length_cons];rw [srcs_len l n p]
theorem srcs_mem {l:List Rw} {d:Int → Nat} (hd:∀ x ∈ l,d x.pa < d x.ch) {a:Int}:∀ (n:Nat) (x:Int),a ∈ srcs l n x → a ∈ l.map (·.ch) ∧ d a ≤ d x
 | 0,_,h => by simp [srcs] at h
 | n + 1,x,h => by
  rw [srcs] at h
  cases hu:up l x with
  | none => rw [hu] at h;simp at h
  | some p =>
   rw [hu] at h;obtain ⟨r,hr,e1,e2⟩:=up_mem hu;have:=hd r hr;rw [e1,e2] at this
   rcases List.mem_cons.1 h with rfl | h
   ·exact ⟨List.mem_map.2 ⟨r,hr,e1⟩,Nat.le_refl _⟩
   ·have:=srcs_mem hd n p h
    exact ⟨this.1,by omega⟩
theorem srcs_nodup {l:List Rw} {d:Int → Nat} (hd:∀ x ∈ l,d x.pa < d x.ch):∀ (n:Nat) (x:Int),(srcs l n x).Nodup
 | 0,_ => List.nodup_nil
 | n + 1,x => by
  rw [srcs]
  cases hu:up l x with
  | none => exact List.nodup_nil
  | some p =>
   obtain ⟨r,hr,e1,e2⟩:=up_mem hu;have:=hd r hr;rw [e1,e2] at this;refine List.nodup_cons.2 ⟨fun h => ?_,srcs_nodup hd n p⟩
   have:=(srcs_mem hd n p h).2;omega
theorem chain_short {l:List Rw} (hd:∃ d:Int → Nat,∀ x ∈ l,d x.pa < d x.ch) (n:Nat) (x:Int):(chain l n x).length ≤ l.length:=by
 obtain ⟨d,hd⟩:=hd;rw [← srcs_len];have:=pigeon _ (l.map (·.ch)) (srcs_nodup hd n x) (fun y hy => (srcs_mem hd n x hy).1)
 simpa using this
theorem chain_take (l:List Rw):∀ (m n:Nat) (x:Int),m ≤ n → chain l m x = (chain l n x).take m
 | 0,_,_,_ => by rw [chain];rfl
 | m + 1,0,_,h => absurd h (by omega)
 | m + 1,n + 1,x,h => by
  rw [chain,chain]
  cases up l x with
  | none => rfl
  | some p =>
   simp only;rw [List.take_succ_cons,chain_take l m n p (by omega)]
theorem chain_full {l:List Rw} (hd:∃ d:Int → Nat,∀ x ∈ l,d x.pa < d x.ch) {a:Int} {n:Nat} {x:Int} (h:a ∈ chain l n x):a ∈ chain l l.length x:=by
 by_cases hn:n ≤ l.length
 ·rw [chain_take l n l.length x hn] at h
  exact List.mem_of_mem_take h
 ·rw [chain_take l l.length n x (by omega),List.take_of_length_le (chain_short hd n x)]
  exact h
theorem mem_setR {l:List Rw} {r y:Rw} (hr:l.Pairwise (fun a b => a.ch < b.ch)) (h:y ∈ setR l r):y = r ∨ (y ∈ l ∧ y.ch ≠ r.ch):=by
 unfold setR at h
 split at h
 ·rename_i hf
  have hx:=List.findIdx_getElem (w:=hf);obtain ⟨k,hk⟩:=List.getElem?_of_mem h;rw [List.getElem?_set] at hk
  split at hk
  ·rename_i e
   first | rw [if_pos (by omega)] at hk | skip
   exact .inl (Option.some.inj hk).symm
  ·rename_i e
   refine .inr ⟨List.mem_of_getElem? hk,fun e2 => e ?_⟩
   obtain ⟨h1,h2⟩:=List.getElem?_eq_some_iff.1 hk
   have hx':l[l.findIdx (fun x => x.ch == r.ch)].ch = r.ch:=by simpa using hx
   rw [List.pairwise_iff_getElem] at hr
   rcases Nat.lt_trichotomy (l.findIdx (fun x => x.ch == r.ch)) k with q | q | q
   ·have:=hr _ _ hf h1 q
    rw [h2] at this;omega
   ·exact q
   ·have:=hr _ _ h1 hf q
    rw [h2] at this;omega
 ·rename_i hf
  have hno:r.ch ∉ l.map (·.ch):=fun hm => by
   obtain ⟨x,hx,e⟩:=List.mem_map.1 hm;exact hf (List.findIdx_lt_length.2 ⟨x,hx,by simpa using e⟩)
  rcases (mem_ins (p:=fun x:Rw => decide (r.ch < x.ch))).1 h with e | e
  ·exact .inl e
  ·exact .inr ⟨e,fun q => hno (q ▸ List.mem_map_of_mem e)⟩
theorem rise_set {l:List Rw} {r:Rw} (hr:l.Pairwise (fun a b => a.ch < b.ch)):(setR l r).Pairwise (fun a b => a.ch < b.ch):=by
 unfold setR
 split
 ·rename_i hf
  have hx:=List.findIdx_getElem (w:=hf);have h1:(l.map (·.ch)).Pairwise (· < ·):=List.pairwise_map.2 hr;rw [← Fd.map_set_same (k:=l.findIdx (fun x => x.ch == r.ch)) (r:=r)] at h1
  ·exact List.pairwise_map.1 h1
  ·rw [List.getElem?_map,List.getElem?_eq_getElem hf,Option.map_some]
   exact congrArg some (by simpa using hx)
 ·rename_i hf
  have hno:∀ y ∈ l,y.ch ≠ r.ch:=fun y hy e => hf (List.findIdx_lt_length.2 ⟨y,hy,by simpa using e⟩)
  refine ins_sorted (R:=fun a b:Rw => a.ch < b.ch) (p:=fun x:Rw => decide (r.ch < x.ch)) hr (fun y hy (h:decide (r.ch < y.ch) = false) => ?_) (fun y _ h => of_decide_eq_true h) (fun y z h1 h2 => ?_)
  ·have h:=of_decide_eq_false h
   have:=hno y hy;omega
  ·have h2:=of_decide_eq_true h2
   exact decide_eq_true (by omega)
theorem treeP_do {l:List Rw} {m:Mv} (h:TreeP l) (hm:oneM m = true):TreeP (doM l m):=by
 unfold doM
 by_cases hb:barred l m = true
 ·rw [if_pos hb];exact h
 ·rw [if_neg hb]
  have hone:oneR (rowOf m) = true:=(oneM_in hm).2;refine ⟨rise_set h.rise,fun y hy => ?_,?_⟩
  ·rcases mem_setR h.rise hy with rfl | ⟨h1,_⟩
   ·exact hone
   ·exact h.one y h1
  ·simp only [barred,Bool.or_eq_true,beq_iff_eq,not_or,above] at hb
   obtain ⟨⟨-,hne⟩,hab⟩:=hb
   have hab':m.ch ∉ chain l l.length m.pa:=fun q => hab (List.contains_iff_mem.2 q)
   obtain ⟨d,hd⟩:=h.dep;refine ⟨fun y => if y = m.ch ∨ m.ch ∈ chain l l.length y then d y + d m.pa + 1 else d y,fun y hy => ?_⟩
   rcases mem_setR h.rise hy with rfl | ⟨h1,h2⟩
   ·show (if m.pa = m.ch ∨ m.ch ∈ chain l l.length m.pa then d m.pa + d m.pa + 1 else d m.pa) < if m.ch = m.ch ∨ m.ch ∈ chain l l.length m.ch then d m.ch + d m.pa + 1 else d m.ch
    rw [if_neg (fun q => q.elim (fun q => hne q.symm) hab'),if_pos (.inl rfl)];omega
   ·have h3:=hd y h1
    simp only
    by_cases h4:y.pa = m.ch ∨ m.ch ∈ chain l l.length y.pa
    ·have h5:m.ch ∈ chain l l.length y.ch:=by
      refine chain_full h.dep (n:=l.length + 1) ?_
      rw [chain,up_of h.rise h1]
      rcases h4 with q | q
      ·rw [← q];exact List.mem_cons_self
      ·exact List.mem_cons_of_mem _ q
     rw [if_pos h4,if_pos (.inr h5)];omega
    ·rw [if_neg h4]
     split <;> omega
theorem treeP_fold:∀ {l:List Rw} (ms:List Mv),TreeP l → (∀ m ∈ ms,oneM m = true) → TreeP (foldM l ms)
 | _,[],h,_ => h
 | l,m :: ms,h,hm => by
  show TreeP (foldM (doM l m) ms)
  exact treeP_fold ms (treeP_do h (hm m List.mem_cons_self)) (fun x hx => hm x (List.mem_cons_of_mem _ hx))
theorem len_fold:∀ (l:List Rw) (ms:List Mv),(foldM l ms).length ≤ l.length + ms.length
 | _,[] => Nat.le_refl _
 | l,m :: ms => by
  have h1:=len_fold (doM l m) ms;have h2:=Fd.len_do l m
  show (foldM (doM l m) ms).length ≤ _
  rw [List.length_cons];omega
end Iv
end
section
namespace Iv
open Tp Tr Mo Fo
theorem getM_nil (r:Int):getM [] r = 0:=rfl
theorem getM_cons (a:Mk) (v:List Mk) (r:Int):getM (a :: v) r = if a.rep = r then a.cnt else getM v r:=by
 unfold getM;rw [List.find?_cons]
 by_cases h:a.rep = r
 ·rw [if_pos h,show (a.rep == r) = true from by simpa using h]
  rfl
 ·rw [if_neg h,show (a.rep == r) = false from by simpa using h]
theorem modify_get {t:Tm}:∀ {v:List Mk},v.findIdx (fun x => x.rep == t.r) < v.length → ∀ r,getM (v.modify (v.findIdx (fun x => x.rep == t.r)) (fun x => ⟨x.rep,max x.cnt t.c⟩)) r = if r = t.r then max (getM v t.r) t.c else getM v r
 | [],h,_ => by simp at h
 | a :: v,h,r => by
  rw [List.findIdx_cons] at h ⊢
  by_cases e:a.rep = t.r
  ·rw [show (a.rep == t.r) = true from by simpa using e]
   show getM (⟨a.rep,max a.cnt t.c⟩ :: v) r = _
   rw [getM_cons,getM_cons,getM_cons];simp only;rw [if_pos e]
   by_cases q:r = t.r
   ·rw [if_pos (by omega),if_pos q]
   ·rw [if_neg (by omega),if_neg q,if_neg (by omega)]
  ·rw [show (a.rep == t.r) = false from by simpa using e] at h ⊢
   have h':v.findIdx (fun x => x.rep == t.r) < v.length:=by simpa using h
   show getM (a :: v.modify (v.findIdx (fun x => x.rep == t.r)) (fun x => ⟨x.rep,max x.cnt t.c⟩)) r = _
   rw [getM_cons,modify_get h',getM_cons,getM_cons,if_neg e]
   by_cases q:r = t.r
   ·rw [if_neg (by omega),if_pos q,if_pos q]
   ·rw [if_neg q,if_neg q]
theorem ins_get {t:Tm} {p:Mk → Bool}:∀ {v:List Mk},(∀ x ∈ v,x.rep ≠ t.r) → ∀ r,getM (ins p ⟨t.r,t.c⟩ v) r = if r = t.r then t.c else getM v r
 | [],_,r => by
  rw [ins_nil,getM_cons,getM_nil];simp only
  by_cases q:r = t.r
  ·rw [if_pos q.symm,if_pos q]
  ·rw [if_neg (fun e => q e.symm),if_neg q]
 | a :: v,h,r => by
  by_cases hp:p a = true
  ·rw [ins_yes _ _ hp,getM_cons]
   simp only
   by_cases q:r = t.r
   ·rw [if_pos q.symm,if_pos q]
   ·rw [if_neg (fun e => q e.symm),if_neg q]
  ·rw [ins_no _ _ (by simpa using hp),getM_cons,ins_get (fun x hx => h x (List.mem_cons_of_mem _ hx)),getM_cons]
   have:=h a List.mem_cons_self
   by_cases q:r = t.r
   ·rw [if_neg (by omega),if_pos q,if_pos q]
   ·rw [if_neg q,if_neg q]
theorem get_none {t:Int}:∀ {v:List Mk},(∀ x ∈ v,x.rep ≠ t) → getM v t = 0
 | [],_ => rfl
 | a :: v,h => by
  rw [getM_cons,if_neg (h a List.mem_cons_self)];exact get_none (fun x hx => h x (List.mem_cons_of_mem _ hx))
theorem no_rep {t:Tm} {v:List Mk} (h:¬ v.findIdx (fun x => x.rep == t.r) < v.length):∀ x ∈ v,x.rep ≠ t.r:=fun x hx e => h (List.findIdx_lt_length.2 ⟨x,hx,by simpa using e⟩)
theorem get_raise (v:List Mk) {t:Tm} (hc:1 ≤ t.c) (r:Int):getM (raiseM v t) r = if r = t.r then max (getM v t.r) t.c else getM v r:=by
 unfold raiseM
 split
 ·rename_i h
  exact modify_get h r
 ·rename_i h
  rw [if_neg (by omega)];have:=no_rep h
  show getM (ins _ ⟨t.r,t.c⟩ v) r = _
  rw [ins_get this,get_none this]
  by_cases q:r = t.r
  ·rw [if_pos q,if_pos q];omega
  ·rw [if_neg q,if_neg q]
structure MksP (v:List Mk):Prop where
 one:∀ x ∈ v,1 ≤ x.rep ∧ x.rep ≤ 255 ∧ 1 ≤ x.cnt ∧ x.cnt ≤ 4611686018427387903
 rise:v.Pairwise (fun a b => a.rep < b.rep)
theorem mksP_nil:MksP []:=⟨fun _ h => by simp at h,List.Pairwise.nil⟩
theorem MksP.ok {v:List Mk} (h:MksP v):Mr.okMks v:=⟨h.one,fun j a b ha hb => pw_adj h.rise j a b ha hb⟩
theorem mem_modify {α:Type} {f:α → α} {y:α}:∀ {l:List α} {k:Nat},y ∈ l.modify k f → y ∈ l ∨ ∃ x,l[k]? = some x ∧ y = f x
 | [],k,h => by simp at h
 | a :: l,0,h => by
  rw [List.modify_zero_cons] at h
  rcases List.mem_cons.1 h with rfl | h
  ·exact .inr ⟨a,rfl,rfl⟩
  ·exact .inl (List.mem_cons_of_mem _ h)
 | a :: l,k + 1,h => by
  rw [List.modify_succ_cons] at h
  rcases List.mem_cons.1 h with rfl | h
  ·exact .inl List.mem_cons_self
  ·rcases mem_modify h with h | ⟨x,h,e⟩
   ·exact .inl (List.mem_cons_of_mem _ h)
   ·exact .inr ⟨x,h,e⟩
theorem modify_reps {c:Int}:∀ (v:List Mk) (k:Nat),(v.modify k (fun x => ⟨x.rep,max x.cnt c⟩)).map (·.rep) = v.map (·.rep)
 | [],k => by simp
 | a :: v,0 => by rw [List.modify_zero_cons];rfl
 | a :: v,k + 1 => by
  rw [List.modify_succ_cons,List.map_cons,modify_reps v k,List.map_cons]
theorem mksP_raise {v:List Mk} (h:MksP v) {t:Tm} (ht:okT t):MksP (raiseM v t):=by
 obtain ⟨t1,t2,t3,t4⟩:=ht;unfold raiseM
 split
 ·refine ⟨fun x hx => ?_,?_⟩
  ·rcases mem_modify hx with hx | ⟨y,hy,rfl⟩
   ·exact h.one x hx
   ·have:=h.one y (List.mem_of_getElem? hy)
    simp only;omega
  ·have h1:(v.map (·.rep)).Pairwise (· < ·):=List.pairwise_map.2 h.rise
   rw [← modify_reps (c:=t.c) v (v.findIdx (fun x => x.rep == t.r))] at h1;exact List.pairwise_map.1 h1
 ·rename_i hf
  rw [if_neg (by omega)];have hno:=no_rep hf;refine ⟨fun x hx => ?_,?_⟩
  ·rcases mem_ins.1 hx with rfl | hx
   ·exact ⟨t3,t4,t1,t2⟩
   ·exact h.one x hx
  ·refine ins_sorted (R:=fun a b:Mk => a.rep < b.rep) (p:=fun x => decide (t.r < x.rep)) h.rise (fun y hy hp => ?_) (fun y _ hp => of_decide_eq_true hp) (fun y z h1 h2 => ?_)
   ·have hp:=of_decide_eq_false hp
    have:=hno y hy;simp only;omega
   ·have h2:=of_decide_eq_true h2
    exact decide_eq_true (by omega)
theorem get_pos {v:List Mk} (h:MksP v) (r:Int):0 ≤ getM v r:=by
 obtain ⟨h,-⟩:=h
 induction v with
 | nil => exact Int.le_refl _
 | cons a v ih =>
  rw [getM_cons];have:=h a List.mem_cons_self
  split
  ·omega
  ·exact ih (fun x hx => h x (List.mem_cons_of_mem _ hx))
theorem mks_ext:∀ {v u:List Mk},MksP v → MksP u → (∀ r,getM v r = getM u r) → v = u
 | [],[],_,_,_ => rfl
 | [],b :: u,_,hu,h => by
  have h1:=h b.rep;rw [getM_nil,getM_cons,if_pos rfl] at h1;have:=hu.one b List.mem_cons_self;omega
 | a :: v,[],hv,_,h => by
  have h1:=h a.rep;rw [getM_nil,getM_cons,if_pos rfl] at h1;have:=hv.one a List.mem_cons_self;omega
 | a :: v,b :: u,hv,hu,h => by
  have hv1:=List.pairwise_cons.1 hv.rise;have hu1:=List.pairwise_cons.1 hu.rise;have ha:=hv.one a List.mem_cons_self;have hb:=hu.one b List.mem_cons_self;have e1:=h a.rep;have e2:=h b.rep;rw [getM_cons,if_pos rfl,getM_cons] at e1;rw [getM_cons,getM_cons,if_pos rfl] at e2
  have e:a.rep = b.rep:=by
   rcases Int.lt_trichotomy a.rep b.rep with q | q | q
   ·rw [if_neg (by omega),get_none (fun x hx => by have:=hu1.1 x hx;omega)] at e1
    omega
   ·exact q
   ·rw [if_neg (by omega),get_none (fun x hx => by have:=hv1.1 x hx;omega)] at e2
    omega
  rw [if_pos e.symm] at e1
  have e3:a = b:=by
   cases a;cases b;simp only at e e1;subst e e1;rfl
  subst e3
  congr 1
  refine mks_ext ⟨fun x hx => hv.one x (List.mem_cons_of_mem _ hx),hv1.2⟩ ⟨fun x hx => hu.one x (List.mem_cons_of_mem _ hx),hu1.2⟩ (fun r => ?_)
  by_cases q:a.rep = r
  ·rw [get_none (fun x hx => by have:=hv1.1 x hx;omega),get_none (fun x hx => by have:=hu1.1 x hx;omega)]
  ·have:=h r
   rw [getM_cons,getM_cons,if_neg q,if_neg q] at this;exact this
theorem raise_raise {v:List Mk} (h:MksP v) {t u:Tm} (ht:okT t) (hu:okT u):raiseM (raiseM v t) u = raiseM (raiseM v u) t:=
 mks_ext (mksP_raise (mksP_raise h ht) hu) (mksP_raise (mksP_raise h hu) ht) (fun r => by
  simp only [get_raise _ ht.1,get_raise _ hu.1]
  by_cases q:r = t.r
  ·subst q
   by_cases q':t.r = u.r
   ·rw [if_pos q',if_pos rfl,← q',if_pos rfl,if_pos rfl]
    omega
   ·rw [if_neg q',if_pos rfl,if_pos rfl,if_neg q']
  ·by_cases q':r = u.r
   ·subst q'
    rw [if_pos rfl,if_neg q,if_neg q,if_pos rfl]
   ·rw [if_neg q',if_neg q,if_neg q,if_neg q'])
def ofV (v:List Mk) (l:List Mv):List Mk:=l.foldl (fun v m => raiseM v m.t) v
theorem ofV_cons (v:List Mk) (m:Mv) (l:List Mv):ofV v (m :: l) = ofV (raiseM v m.t) l:=rfl
theorem ofM_ofV (l:List Mv):ofM l = ofV [] l:=rfl
theorem ofV_raise:∀ {v:List Mk} {l:List Mv} {t:Tm},MksP v → (∀ m ∈ l,okT m.t) → okT t → ofV (raiseM v t) l = raiseM (ofV v l) t
 | _,[],_,_,_,_ => rfl
 | v,m :: l,t,h,hl,ht => by
  rw [ofV_cons,ofV_cons,raise_raise h ht (hl m List.mem_cons_self),ofV_raise (mksP_raise h (hl m List.mem_cons_self)) (fun x hx => hl x (List.mem_cons_of_mem _ hx)) ht]
theorem ofV_ins {p:Mv → Bool} {m:Mv} (hm:okT m.t):∀ {l:List Mv} {v:List Mk},MksP v → (∀ x ∈ l,okT x.t) → ofV v (ins p m l) = raiseM (ofV v l) m.t
 | [],_,_,_ => rfl
 | a :: l,v,h,hl => by
  have hl':∀ x ∈ l,okT x.t:=fun x hx => hl x (List.mem_cons_of_mem _ hx)
  by_cases hp:p a = true
  ·rw [ins_yes _ _ hp,ofV_cons,ofV_raise h hl hm]
  ·rw [ins_no _ _ (by simpa using hp),ofV_cons,ofV_ins hm (mksP_raise h (hl a List.mem_cons_self)) hl']
   rfl
theorem get_ofV {r:Int}:∀ {l:List Mv} {v:List Mk} {K:Int},(∀ m ∈ l,1 ≤ m.t.c) → getM v r ≤ K → (∀ m ∈ l,m.t.r = r → m.t.c ≤ K) → getM (ofV v l) r ≤ K
 | [],_,_,_,h,_ => h
 | m :: l,v,K,hp,h,hl => by
  rw [ofV_cons];refine get_ofV (fun x hx => hp x (List.mem_cons_of_mem _ hx)) ?_ (fun x hx => hl x (List.mem_cons_of_mem _ hx))
  rw [get_raise v (hp m List.mem_cons_self)];have:=hl m List.mem_cons_self
  by_cases q:r = m.t.r
  ·rw [if_pos q]
   have:=this q.symm;rw [q] at h;omega
  ·rw [if_neg q];exact h
end Iv
end
section
open Go.RowKit
namespace Pk
open Mem
theorem xor_all {u:Nat} (h:u < 18446744073709551616):bits .xor .u64 (u:Int) 18446744073709551615 = ((18446744073709551615 - u:Nat):Int):=by
 rw [show (18446744073709551615:Int) = ((18446744073709551615:Nat):Int) from rfl,u64_xor_nat _ _ h (by decide)]
 have e:u ^^^ 18446744073709551615 = 18446744073709551615 - u:=by
  have h':u < 2 ^ 64:=h
  apply Nat.eq_of_testBit_eq
  intro i
  have e2:18446744073709551615 - u = 2 ^ 64 - (u + 1):=by omega
  rw [Nat.testBit_xor,e2,Nat.testBit_two_pow_sub_succ h',show (18446744073709551615:Nat) = 2 ^ 64 - 1 from rfl,Nat.testBit_two_pow_sub_one]
  by_cases hi:i < 64
  ·simp [hi]
  ·have:u.testBit i = false:=Nat.testBit_lt_two_pow (Nat.lt_of_lt_of_le h' (Nat.pow_le_pow_right (by decide) (by omega)))
   simp [hi,this]
 rw [e]
theorem xor_none {u:Nat} (h:u < 18446744073709551616):bits .xor .u64 (u:Int) 0 = (u:Int):=by
 rw [show (0:Int) = ((0:Nat):Int) from rfl,u64_xor_nat _ _ h (by decide),Nat.xor_zero]
theorem zig_pos {n:Int} (h:0 ≤ n) (h1:n ≤ 9223372036854775807):bits .xor .u64 (n * 2) (n / 9223372036854775808) = ((zigN n:Nat):Int):=by
 have e1:n / 9223372036854775808 = 0:=by omega
 have e2:n * 2 = ((zigN n:Nat):Int):=by unfold zigN;rw [if_pos h];omega
 rw [e1,e2,xor_none (zig_lt (by omega) h1)]
theorem zig_neg {n:Int} (h:n < 0) (h1:-9223372036854775808 ≤ n):bits .xor .u64 (IntKind.u64.wrap (IntKind.u64.wrap n * 2)) (IntKind.u64.wrap (n / 9223372036854775808)) = ((zigN n:Nat):Int):=by
 have e0:zigN n = (2 * (-1 - n) + 1).toNat:=by unfold zigN;rw [if_neg (by omega)]
 have e1:IntKind.u64.wrap (n / 9223372036854775808) = 18446744073709551615:=by rw [IntKind.wrap_u64];omega
 have e2:IntKind.u64.wrap (IntKind.u64.wrap n * 2) = (((2 * n + 18446744073709551616).toNat:Nat):Int):=by rw [IntKind.wrap_u64,IntKind.wrap_u64];omega
 rw [e1,e2,xor_all (by omega),e0];omega
theorem xor_i64_none (x:Int) (h0:-9223372036854775808 ≤ x) (h1:x ≤ 9223372036854775807):bits .xor .i64 x 0 = x:=by
 show IntKind.i64.wrap ((BitVec.ofInt 64 x ^^^ BitVec.ofInt 64 0).toNat:Nat) = x
 rw [show BitVec.ofInt 64 0 = 0#64 from rfl,BitVec.xor_zero,BitVec.toNat_ofInt,IntKind.wrap_i64];omega
theorem xor_i64_all (x:Int) (h0:-9223372036854775808 ≤ x) (h1:x ≤ 9223372036854775807):bits .xor .i64 x (-1) = -1 - x:=by
 show IntKind.i64.wrap ((BitVec.ofInt 64 x ^^^ BitVec.ofInt 64 (-1)).toNat:Nat) = -1 - x
 rw [show BitVec.ofInt 64 (-1) = BitVec.allOnes 64 from by decide,BitVec.xor_allOnes,BitVec.toNat_not,BitVec.toNat_ofInt,IntKind.wrap_i64];omega
theorem zag_form {u:Nat} (h:u < 18446744073709551616):bits .xor .i64 ((u:Int) / 2) (wrap64 (-wrap64 (bits .and .u64 (u:Int) 1))) = zagI u:=by
 rw [and_one_u64 _ (by omega) (by omega)];unfold zagI
 by_cases hu:u % 2 = 1
 ·rw [if_pos hu,show (u:Int) % 2 = 1 from by omega,show wrap64 (-wrap64 1) = -1 from by unfold wrap64;omega,xor_i64_all _ (by omega) (by omega)]
  omega
 ·rw [if_neg hu,show (u:Int) % 2 = 0 from by omega,show wrap64 (-wrap64 0) = 0 from by unfold wrap64;omega,xor_i64_none _ (by omega) (by omega)]
  omega
theorem zig_any (n:Int) (w:World) (h0:-9223372036854775808 ≤ n) (h1:n ≤ 9223372036854775807) :
  Calls Tryz.prog 132 #[.int .i64 n] w fun e w' => e = .returned (.int .u64 (zigN n:Nat)) ∧ w = w':=by
 rcases (show 0 ≤ n ∨ n < 0 by omega) with h | h
 ·have hz:=hid (zig_pos h h1)
  go_enter Tryz.func132,Tryz.ntmps132;go_wp2_with fail;rw [hz.out];go_ret;exact ⟨rfl,rfl⟩
 ·have hz:=hid (zig_neg h h0)
  go_enter Tryz.func132,Tryz.ntmps132;go_wp2_with fail;rw [hz.out];go_ret;exact ⟨rfl,rfl⟩
theorem zag_any (u:Nat) (w:World) (h:u < W64) :
  Calls Tryz.prog 226 #[.int .u64 u] w fun e w' => e = .returned (.int .i64 (zagI u)) ∧ w = w':=by
 have hz:=hid (zag_form h);have hu:=w64 h;go_enter Tryz.func226,Tryz.ntmps226;go_wp2_with fail;rw [hz.out];go_ret;exact ⟨rfl,rfl⟩
end Pk
end
section
open Go.RowKit
namespace Pk
open Mem
def rest (s:ByteArray) (k:Nat):ByteArray:=s.extract k s.size
def wrong (c:Int):List PanicEntry:=[{ v:=.iface 312 (.int .i64 c),recovered:=false }]
theorem must_yes (c:Int) (w:World):Calls Tryz.prog 190 #[.bool true,.int .i64 c] w fun e w' => e = .returned (.tuple #[]) ∧ w = w':=by
 go_enter Tryz.func190,Tryz.ntmps190;go_wp2_with fail
 go_end0
 exact ⟨rfl,rfl⟩
theorem must_no (c:Int) (w:World):Calls Tryz.prog 190 #[.bool false,.int .i64 c] w fun e w' => e = .panicked (wrong c) ∧ w = w':=by
 go_enter Tryz.func190,Tryz.ntmps190;go_wp2_with fail;exact ⟨rfl,rfl,rfl⟩
theorem andNot128 (b:UInt8):bits .andNot .u8 ((b.toNat:Nat):Int) 128 = ((b.toNat % 128:Nat):Int):=by
 have h:∀ x:Nat,x < 256 → x &&& (255 - 128) = x % 128:=by decide +kernel
 rw [show (128:Int) = ((128:Nat):Int) from rfl,u8_andNot_nat _ _ (UInt8.toNat_lt b) (by decide),h _ (UInt8.toNat_lt b)]
theorem or_shift {acc x k:Nat} (hacc:acc < 2 ^ (7 * k)) (hx:acc + x % 128 * 2 ^ (7 * k) < 2 ^ 64) :
  bits .or .u64 (acc:Int) (IntKind.u64.wrap ((x:Int) % 128 * 2 ^ (7 * k))) = ((acc + x % 128 * 2 ^ (7 * k):Nat):Int):=by
 have e:(x:Int) % 128 * 2 ^ (7 * k) = ((x % 128 * 2 ^ (7 * k):Nat):Int):=by
  rw [Int.natCast_mul,Int.natCast_emod,Int.natCast_pow]
  rfl
 have e2:((x % 128 * 2 ^ (7 * k):Nat):Int) % 18446744073709551616 = ((x % 128 * 2 ^ (7 * k):Nat):Int):=by omega
 rw [e,IntKind.wrap_u64,e2,u64_or_nat _ _ (by omega) (by omega)];have e3:=Nat.two_pow_add_eq_or_of_lt hacc (x % 128);rw [Nat.mul_comm] at e3;rw [Nat.or_comm,← e3,Nat.add_comm]
theorem small_shift {acc x k:Nat} (hk:k < 9) (hacc:acc < 2 ^ (7 * k)):acc + x % 128 * 2 ^ (7 * k) < 2 ^ (7 * (k + 1)) ∧ acc + x % 128 * 2 ^ (7 * k) < 2 ^ 64:=by
 have e:2 ^ (7 * (k + 1)) = 128 * 2 ^ (7 * k):=by rw [Nat.mul_add,Nat.pow_add];omega
 have h1:x % 128 * 2 ^ (7 * k) ≤ 127 * 2 ^ (7 * k):=Nat.mul_le_mul_right _ (by omega);have h2:(2:Nat) ^ (7 * (k + 1)) ≤ 2 ^ 64:=Nat.pow_le_pow_right (by decide) (by omega);rw [e] at h2 ⊢;omega
theorem top_shift {acc x k:Nat} (hk:k = 9) (hacc:acc < 2 ^ (7 * k)) (hx:x ≤ 1):acc + x % 128 * 2 ^ (7 * k) < 2 ^ 64:=by
 subst hk
 have e:(2:Nat) ^ 64 = 2 * 2 ^ (7 * 9):=by decide
 rw [e]
 rcases (show x = 0 ∨ x = 1 by omega) with rfl | rfl <;> omega
theorem drop_at (s:ByteArray) (k:Nat) (h:k < s.size):s.data.toList.drop k = s[k] :: s.data.toList.drop (k + 1):=
 List.drop_eq_getElem_cons (by rw [size_list];exact h)
theorem go_bad {k acc:Nat} {s:ByteArray} (h:k < s.size) (hb:(k = 9 ∧ 1 < s[k].toNat) ∨ (0 < k ∧ s[k].toNat = 0)):numGo k acc (s.data.toList.drop k) = (3,0,0):=by
 rw [drop_at s k h,numGo,if_pos hb]
theorem go_last {k acc:Nat} {s:ByteArray} (h:k < s.size) (hb:¬ ((k = 9 ∧ 1 < s[k].toNat) ∨ (0 < k ∧ s[k].toNat = 0))) (hl:s[k].toNat < 128):numGo k acc (s.data.toList.drop k) = (0,acc + s[k].toNat % 128 * 2 ^ (7 * k),k + 1):=by
 rw [drop_at s k h,numGo,if_neg hb,if_pos hl,Nat.mod_eq_of_lt hl]
theorem go_more {k acc:Nat} {s:ByteArray} (h:k < s.size) (hb:¬ ((k = 9 ∧ 1 < s[k].toNat) ∨ (0 < k ∧ s[k].toNat = 0))) (hl:¬ s[k].toNat < 128):numGo k acc (s.data.toList.drop k) = numGo (k + 1) (acc + s[k].toNat % 128 * 2 ^ (7 * k)) (s.data.toList.drop (k + 1)):=by
 rw [drop_at s k h,numGo,if_neg hb,if_neg hl]
theorem go_cut' {k acc:Nat} {s:ByteArray} (h:¬ k < s.size):numGo k acc (s.data.toList.drop k) = (2,0,0):=by
 rw [List.drop_eq_nil_of_le (by rw [size_list];omega)]
 rfl
def Num1End (s:ByteArray) (q:Nat) (w:World) (e:Ending) (w':World):Prop:=
 ((numR s.data.toList).1 = 0 ∧ e = .returned (.string (rest s (numR s.data.toList).2.2)) ∧ w' = w.setCell ⟨q,0,none⟩ (.int .u64 (numR s.data.toList).2.1)) ∨
 ((numR s.data.toList).1 ≠ 0 ∧ e = .panicked (wrong (numR s.data.toList).1) ∧ w' = w)
theorem end_ok {s:ByteArray} {q N k:Nat} {w:World} (h:numR s.data.toList = (0,N,k)):Num1End s q w (.returned (.string (s.extract k s.size))) (w.setCell ⟨q,0,none⟩ (.int .u64 N)):=
 .inl ⟨by rw [h],by rw [h];rfl,by rw [h]⟩
theorem end_bad {s:ByteArray} {q:Nat} {c:Int} {w:World} (h:numR s.data.toList = (c,0,0)) (hc:c ≠ 0):Num1End s q w (.panicked (wrong c)) w:=
 .inr ⟨by rw [h];exact hc,by rw [h],rfl⟩
theorem num1_any (s:ByteArray) (q old:Nat) (w:World) (hq:w.heap[q]? = some (.cells #[.int .u64 old] 120 (0,0))) (hs:s.size ≤ 9223372036854775807) :
  Calls Tryz.prog 189 #[.string s,.pointer (some ⟨q,0,none⟩)] w (Num1End s q w):=by
 have hcell:=cell_of_one hq;have hfree:=free_of_one hq;clear hq;go_enter Tryz.func189,Tryz.ntmps189;go_wp2_with fail
 go_loop [4,5] (fun n i => ∃ (k acc:Nat),n = .int .u64 acc ∧ i = .int .i64 k ∧ k ≤ 9 ∧ k ≤ s.size ∧ Hid (acc < 2 ^ (7 * k)) ∧ Hid (numGo k acc (s.data.toList.drop k) = numR s.data.toList)) (fun _ i => 10 - (intOf i).toNat)
 case atStart => exact ⟨0,0,rfl,rfl,by omega,by omega,hid (by decide),hid rfl⟩
 case round =>
  obtain ⟨k,acc,rfl,rfl,hk9,hks,hacc,HG⟩:=hrel
  by_cases hlt:k < s.size
  ·by_cases h9:k < 9
   ·have c9:(k:Int) < 9:=by omega
    have hkk:=h9
    by_cases h0:k = 0
    ·have c0:((k:Int) == 0) = true:=by rw [beq_iff_eq];omega
     have not_bad:¬ ((k = 9 ∧ 1 < s[k].toNat) ∨ (0 < k ∧ s[k].toNat = 0)):=by omega
     clear h0;have hbad:=not_bad;have e8:=andNot128 s[k];have e9:=or_shift (x:=s[k].toNat) hacc.out (small_shift hkk hacc.out).2
     by_cases hl:s[k].toNat < 128
     ·have HE:=hid (end_ok (q:=q) (w:=w) (HG.out.symm.trans (go_last hlt hbad hl)))
      have hl':(s[k].toNat:Int) < 128:=by omega
      clear hl hbad;generalize acc + s[k].toNat % 128 * 2 ^ (7 * k) = N at *;go_wp2_with fail;refine (must_yes _ _).mono ?_
      rintro e w' ⟨rfl,rfl⟩;go_wp2_with fail;refine (must_yes _ _).mono ?_
      rintro e w' ⟨rfl,rfl⟩;go_wp2_with fail;go_ret;exact HE.out
     ·have HA:=hid (small_shift (x:=s[k].toNat) hkk hacc.out).1
      have HN:=hid ((go_more hlt hbad hl).symm.trans HG.out)
      have hl':128 ≤ (s[k].toNat:Int):=by omega
      clear hl hbad;generalize acc + s[k].toNat % 128 * 2 ^ (7 * k) = N at *;go_wp2_with fail;refine (must_yes _ _).mono ?_
      rintro e w' ⟨rfl,rfl⟩;go_wp2_with fail;refine (must_yes _ _).mono ?_
      rintro e w' ⟨rfl,rfl⟩;go_wp2_with fail
      go_round
      case rel => exact ⟨k + 1,N,rfl,by go_num,by omega,by omega,HA,HN⟩
      case measure => simp [intOf];omega
    ·have c0:((k:Int) == 0) = false:=by rw [beq_eq_false_iff_ne];omega
     by_cases hz:s[k].toNat = 0
     ·have hb:(k = 9 ∧ 1 < s[k].toNat) ∨ (0 < k ∧ s[k].toNat = 0):=.inr ⟨by omega,hz⟩
      have cz:((s[k].toNat:Int) != 0) = false:=by rw [bne_eq_false_iff_eq];omega
      clear hz;have HE:=hid (end_bad (q:=q) (w:=w) (HG.out.symm.trans (go_bad hlt hb)) (by decide));clear hb;go_wp2_with fail;refine (must_yes _ _).mono ?_
      rintro e w' ⟨rfl,rfl⟩;go_wp2_with fail;refine (must_no _ _).mono ?_
      rintro e w' ⟨rfl,rfl⟩;go_wp2_with fail;exact ⟨rfl,HE.out⟩
     ·have not_bad:¬ ((k = 9 ∧ 1 < s[k].toNat) ∨ (0 < k ∧ s[k].toNat = 0)):=by omega
      have cz:((s[k].toNat:Int) != 0) = true:=by rw [bne_iff_ne];omega
      clear hz;have hbad:=not_bad;have e8:=andNot128 s[k];have e9:=or_shift (x:=s[k].toNat) hacc.out (small_shift hkk hacc.out).2
      by_cases hl:s[k].toNat < 128
      ·have HE:=hid (end_ok (q:=q) (w:=w) (HG.out.symm.trans (go_last hlt hbad hl)))
       have hl':(s[k].toNat:Int) < 128:=by omega
       clear hl hbad;generalize acc + s[k].toNat % 128 * 2 ^ (7 * k) = N at *;go_wp2_with fail;refine (must_yes _ _).mono ?_
       rintro e w' ⟨rfl,rfl⟩;go_wp2_with fail;refine (must_yes _ _).mono ?_
       rintro e w' ⟨rfl,rfl⟩;go_wp2_with fail;go_ret;exact HE.out
      ·have HA:=hid (small_shift (x:=s[k].toNat) hkk hacc.out).1
       have HN:=hid ((go_more hlt hbad hl).symm.trans HG.out)
       have hl':128 ≤ (s[k].toNat:Int):=by omega
       clear hl hbad;generalize acc + s[k].toNat % 128 * 2 ^ (7 * k) = N at *;go_wp2_with fail;refine (must_yes _ _).mono ?_
       rintro e w' ⟨rfl,rfl⟩;go_wp2_with fail;refine (must_yes _ _).mono ?_
       rintro e w' ⟨rfl,rfl⟩;go_wp2_with fail
       go_round
       case rel => exact ⟨k + 1,N,rfl,by go_num,by omega,by omega,HA,HN⟩
       case measure => simp [intOf];omega
   ·have c9:decide ((k:Int) < 9) = false:=by rw [decide_eq_false_iff_not];omega
    have c0:((k:Int) == 0) = false:=by rw [beq_eq_false_iff_ne];omega
    have H9:=hid (show k = 9 by omega)
    by_cases hx:s[k].toNat ≤ 1
    ·have cx:(s[k].toNat:Int) ≤ 1:=by omega
     by_cases hz:s[k].toNat = 0
     ·have hb:(k = 9 ∧ 1 < s[k].toNat) ∨ (0 < k ∧ s[k].toNat = 0):=.inr ⟨by omega,hz⟩
      have cz:((s[k].toNat:Int) != 0) = false:=by rw [bne_eq_false_iff_eq];omega
      clear hz h9;have HE:=hid (end_bad (q:=q) (w:=w) (HG.out.symm.trans (go_bad hlt hb)) (by decide));clear hb;go_wp2_with fail;refine (must_yes _ _).mono ?_
      rintro e w' ⟨rfl,rfl⟩;go_wp2_with fail;refine (must_no _ _).mono ?_
      rintro e w' ⟨rfl,rfl⟩;go_wp2_with fail;exact ⟨rfl,HE.out⟩
     ·have not_bad:¬ ((k = 9 ∧ 1 < s[k].toNat) ∨ (0 < k ∧ s[k].toNat = 0)):=by omega
      have cz:((s[k].toNat:Int) != 0) = true:=by rw [bne_iff_ne];omega
      clear hz h9;have hbad:=not_bad;have e8:=andNot128 s[k];have e9:=or_shift (x:=s[k].toNat) hacc.out (top_shift H9.out hacc.out hx)
      by_cases hl:s[k].toNat < 128
      ·have HE:=hid (end_ok (q:=q) (w:=w) (HG.out.symm.trans (go_last hlt hbad hl)))
       have hl':(s[k].toNat:Int) < 128:=by omega
       clear hl hbad;generalize acc + s[k].toNat % 128 * 2 ^ (7 * k) = N at *;go_wp2_with fail;refine (must_yes _ _).mono ?_
       rintro e w' ⟨rfl,rfl⟩;go_wp2_with fail;refine (must_yes _ _).mono ?_
       rintro e w' ⟨rfl,rfl⟩;go_wp2_with fail;go_ret;exact HE.out
      ·omega
    ·have cx:¬ (s[k].toNat:Int) ≤ 1:=by omega
     have hb:(k = 9 ∧ 1 < s[k].toNat) ∨ (0 < k ∧ s[k].toNat = 0):=.inl ⟨H9.out,by omega⟩;clear h9;have HE:=hid (end_bad (q:=q) (w:=w) (HG.out.symm.trans (go_bad hlt hb)) (by decide));clear hb;go_wp2_with fail;refine (must_yes _ _).mono ?_
     rintro e w' ⟨rfl,rfl⟩;go_wp2_with fail;refine (must_no _ _).mono ?_
     rintro e w' ⟨rfl,rfl⟩;go_wp2_with fail;exact ⟨rfl,HE.out⟩
  ·have hk':k = s.size:=by omega
   have HE:=hid (end_bad (q:=q) (w:=w) (HG.out.symm.trans (go_cut' hlt)) (by decide));have hge:decide (k < s.size) = false:=decide_eq_false hlt;clear hk' hlt;go_wp2_with fail;refine (must_no _ _).mono ?_
   rintro e w' ⟨rfl,rfl⟩;go_wp2_with fail;exact ⟨rfl,HE.out⟩
end Pk
end
section
open Go.RowKit
namespace Pk
open Mem
def rd (s:ByteArray) (e:Int):Obj:=.cells #[.string s,.int .i64 e] 271 (0,0)
theorem rd_str {w:World} {b:Nat} {s:ByteArray} {e:Int} (h:w.heap[b]? = some (rd s e)):w.cell? ⟨b,0,none⟩ = some (.string s):=cell_at h 0
theorem rd_err {w:World} {b:Nat} {s:ByteArray} {e:Int} (h:w.heap[b]? = some (rd s e)):w.cell? ⟨b,1,none⟩ = some (.int .i64 e):=cell_at h 1
theorem rd_free0 {w:World} {b:Nat} {s:ByteArray} {e:Int} (h:w.heap[b]? = some (rd s e)):w.frozen? ⟨b,0,none⟩ = false:=free_at h 0
theorem rd_free1 {w:World} {b:Nat} {s:ByteArray} {e:Int} (h:w.heap[b]? = some (rd s e)):w.frozen? ⟨b,1,none⟩ = false:=free_at h 1
theorem rd_set0 {w:World} {b:Nat} {s:ByteArray} {e:Int} (h:w.heap[b]? = some (rd s e)) (t:ByteArray):(w.setCell ⟨b,0,none⟩ (.string t)).heap[b]? = some (rd t e):=set_at h 0 (.string t)
theorem rd_set1 {w:World} {b:Nat} {s:ByteArray} {e:Int} (h:w.heap[b]? = some (rd s e)) (c:Int):(w.setCell ⟨b,1,none⟩ (.int .i64 c)).heap[b]? = some (rd s c):=set_at h 1 (.int .i64 c)
theorem caught_idle (p:Addr) (w:World) :
  CallsD Tryz.prog 225 #[.pointer (some p)] .returning w fun e u' w' => e = .returned (.tuple #[]) ∧ u' = .returning ∧ w' = w:=by
 refine callsD_of_wpS Tryz.func225 rfl fun c₀ cs hu => ?_
 apply wpS_seq
 apply wpS_region
 simp [wpOpsS,go_sem,recoverD,hu,Tryz.ntmps225,Exit.thenS]
 apply wpS_seq
 apply wpS_region
 simp [wpOpsS,go_sem,recoverD,hu,Exit.thenS];refine wpS_cond (t:=false) (by simp [Act.eval,Array.replicate]) ?_
 simp only [Bool.false_eq_true,if_false];refine wpS_of_wp (wp_skip ?_)
 cases c₀
 simp_all [bodyPostS,results,Tryz.results225]
theorem assert_wrong (c:Int) (w:World):(Instr.typeAssert (.iface 312 (.int .i64 c)) 20 312 false).run Tryz.prog w = .ok (.int .i64 c) w:=by kernel_rfl
theorem caught (p:Addr) (b:Nat) (s:ByteArray) (x c:Int) (older:List PanicEntry) (w:World) (hp:w.cell? p = some (.pointer (some ⟨b,0,none⟩))) (hb:w.heap[b]? = some (rd s x)) :
  CallsD Tryz.prog 225 #[.pointer (some p)] (.panicking ({ v:=.iface 312 (.int .i64 c),recovered:=false } :: older)) w fun e u' w' =>
   e = .returned (.tuple #[]) ∧ u' = .panicking ({ v:=.iface 312 (.int .i64 c),recovered:=true } :: older) ∧ w' = (w.setCell ⟨b,1,none⟩ (.int .i64 c)).drew:=by
 have h1:=rd_err hb;have h2:=rd_free1 hb
 refine callsD_of_wpS Tryz.func225 rfl fun c₀ cs hu => ?_
 apply wpS_seq
 apply wpS_region
 simp [wpOpsS,go_sem,recoverD,hu,Exit.thenS]
 apply wpS_seq
 apply wpS_region
 simp [wpOpsS,go_sem,Exit.thenS];refine wpS_cond (t:=true) (by simp [Act.eval,Array.replicate]) ?_
 simp only [if_true];refine wpS_of_wp ?_
 have hta:=assert_wrong c;simp only [Array.replicate_succ,Array.replicate_zero,List.push_toArray,List.append_toArray,List.nil_append,List.cons_append,List.setIfInBounds_toArray,List.set_cons_zero,List.set_cons_succ]
 go_region
 all_goals exact ⟨rfl,_,rfl,_,results_none rfl _ _ _,rfl,rfl,rfl⟩
theorem read_ok (f:Nat) (cap:Array Value) (b:Nat) (s t:ByteArray) (w:World) (P:World → Prop) (hb:w.heap[b]? = some (rd s 0))
  (hE:∀ w1,(callFunc f (#[.string s] ++ cap)).run Tryz.prog w1 = .ok (.enter f (#[.string s] ++ cap)) w1)
  (hF:∀ w1,Below w.heap.size w w1 → Calls Tryz.prog f (#[.string s] ++ cap) w1 fun e w' => e = .returned (.string t) ∧ w'.heap[b]? = some (rd s 0) ∧ w'.cell? ⟨w.heap.size,0,none⟩ = w1.cell? ⟨w.heap.size,0,none⟩ ∧ P w') :
  Calls Tryz.prog 188 #[.pointer (some ⟨b,0,none⟩),.func (.func f) #[] cap] w fun e w' => e = .returned (.tuple #[]) ∧ ∃ w2,P w2 ∧ w' = w2.setCell ⟨b,0,none⟩ (.string t):=by
 have hmf:∀ (fn:Fn) (first cap:Array Value) (w:World),(Instr.makeFunc fn first cap).run Tryz.prog w = .ok (.func fn first cap) w:=fun _ _ _ _ => rfl
 have hlt:=lt_of_block hb;have HE:=hid hE;have HF:=hid hF;clear hE hF;have h0:=rd_str (alloc_at (.cells #[.pointer (some ⟨b,0,none⟩)] 223) hb);have h1:=rd_err (alloc_at (.cells #[.pointer (some ⟨b,0,none⟩)] 223) hb);have hb':=alloc_at (.cells #[.pointer (some ⟨b,0,none⟩)] 223) hb
 go_enter_defers Tryz.func188,Tryz.ntmps188
 go_wp2_with fail;have he:=HE.out;refine wp_region_noPanic ?_
 go_region_with ((refine (HF.out _ (((Below.refl _ _).alloc (Nat.le_refl _) _).drew)).mono ?_);rintro e w2 ⟨rfl,k0,k1,k2⟩;have k3:=rd_str k0;have k4:=rd_free0 k0;have k5:w2.cell? ⟨w.heap.size,0,none⟩ = some (.pointer (some ⟨b,0,none⟩)):=k1.trans (by simp [go_sem]);clear k0 k1)
 all_goals
  refine leaves_cons (f:=225) (args:=#[.pointer (some ⟨w.heap.size,0,none⟩)]) (by simp) (by simp [go_sem]) ?_
  refine (caught_idle _ _).mono ?_
  rintro e u' w'' ⟨rfl,rfl,rfl⟩;exact ⟨_,results_none rfl _ _ _,rfl,w2,k2,rfl⟩
def PanicOnly (D:List Deferred) (R:List PanicEntry → World → Prop):Exit → Act → World → Prop
 | .panic ch,a,w => a.defers = D ∧ R ch w
 | _,_,_ => False
theorem read_bad (f:Nat) (cap:Array Value) (b:Nat) (s:ByteArray) (c:Int) (w:World) (P:World → Prop) (hb:w.heap[b]? = some (rd s 0))
  (hE:∀ w1,(callFunc f (#[.string s] ++ cap)).run Tryz.prog w1 = .ok (.enter f (#[.string s] ++ cap)) w1)
  (hF:∀ w1,Below w.heap.size w w1 → Calls Tryz.prog f (#[.string s] ++ cap) w1 fun e w' => e = .panicked (wrong c) ∧ w'.heap[b]? = some (rd s 0) ∧ w'.cell? ⟨w.heap.size,0,none⟩ = w1.cell? ⟨w.heap.size,0,none⟩ ∧ P w') :
  Calls Tryz.prog 188 #[.pointer (some ⟨b,0,none⟩),.func (.func f) #[] cap] w fun e w' => e = .returned (.tuple #[]) ∧ ∃ w2,P w2 ∧ w2.heap[b]? = some (rd s 0) ∧ w' = (w2.setCell ⟨b,1,none⟩ (.int .i64 c)).drew:=by
 have hmf:∀ (fn:Fn) (first cap:Array Value) (w:World),(Instr.makeFunc fn first cap).run Tryz.prog w = .ok (.func fn first cap) w:=fun _ _ _ _ => rfl
 have hlt:=lt_of_block hb;have HE:=hid hE;have HF:=hid hF;clear hE hF;have h0:=rd_str (alloc_at (.cells #[.pointer (some ⟨b,0,none⟩)] 223) hb);have h1:=rd_err (alloc_at (.cells #[.pointer (some ⟨b,0,none⟩)] 223) hb);have hb':=alloc_at (.cells #[.pointer (some ⟨b,0,none⟩)] 223) hb
 go_enter_defers Tryz.func188,Tryz.ntmps188
 go_wp2_with fail;have he:=HE.out;refine Code.wp_mono (Q:=PanicOnly [{ target:=Target.fn (Fn.func 225) #[.pointer (some ⟨w.heap.size,0,none⟩)],args:=#[] }] (fun ch w2 => ch = wrong c ∧ w2.heap[b]? = some (rd s 0) ∧ w2.cell? ⟨w.heap.size,0,none⟩ = some (.pointer (some ⟨b,0,none⟩)) ∧ P w2)) ?imp ?reg
 case imp =>
  intro e a w2 h
  cases e with
  | panic ch =>
   obtain ⟨hd,rfl,k0,k5,k2⟩:=h
   show Leaves _ _ a.tmps _ a.defers _ _
   rw [hd];refine leaves_cons (f:=225) (args:=#[.pointer (some ⟨w.heap.size,0,none⟩)]) (by simp) (by simp [go_sem]) ?_
   refine (caught _ b s 0 c [] _ k5 k0).mono ?_
   rintro e u' w'' ⟨rfl,rfl,rfl⟩;exact ⟨_,results_none rfl _ _ _,rfl,w2,k2,k0,rfl⟩
  | _ => exact (h:False).elim
 case reg =>
  have HF2:Hid (∀ w1,Below w.heap.size w w1 → Calls Tryz.prog f (#[.string s] ++ cap) w1 fun e w' => (e = .panicked (wrong c) ∧ w'.heap[b]? = some (rd s 0) ∧ w'.cell? ⟨w.heap.size,0,none⟩ = w1.cell? ⟨w.heap.size,0,none⟩ ∧ P w') ∨ (e = .returned (.string s) ∧ Hid False)):=hid (fun w1 h => (HF.out w1 h).mono fun e w' h => .inl h)
  go_region_with ((refine (HF2.out _ (((Below.refl _ _).alloc (Nat.le_refl _) _).drew)).mono ?_);rintro e w2 (⟨rfl,k0,k1,k2⟩ | ⟨rfl,hno⟩);(exact ⟨rfl,rfl,k0,k1.trans (by simp [go_sem]),k2⟩);have k3:w2.cell? ⟨b,0,none⟩ = some (.string s):=(hno.out:False).elim;have k4:w2.frozen? ⟨b,0,none⟩ = false:=(hno.out:False).elim;have k5:w2.cell? ⟨w.heap.size,0,none⟩ = some (.pointer (some ⟨b,0,none⟩)):=(hno.out:False).elim)
  all_goals exact (hno.out:False).elim
end Pk
end
section
open Go.RowKit
namespace Pk
open Mem
def numE (s:ByteArray) (e:Int):Int:=if e = 0 then (numR s.data.toList).1 else e
def numN (s:ByteArray) (e:Int):Nat:=if e = 0 then (numR s.data.toList).2.1 else 0
def numK (s:ByteArray) (e:Int):Nat:=if e = 0 then (numR s.data.toList).2.2 else 0
def takeK (s:ByteArray) (e n:Int):Nat:=if e = 0 ∧ 0 ≤ n ∧ n ≤ s.size then n.toNat else 0
def takeE (s:ByteArray) (e n:Int):Int:=if e = 0 then (if 0 ≤ n ∧ n ≤ s.size then 0 else 2) else e
def takeS (s:ByteArray) (e n:Int):ByteArray:=s.extract 0 (takeK s e n)
theorem ext_list {s t:ByteArray} (h:s.data.toList = t.data.toList):s = t:=by rw [← str_of s,h,str_of]
theorem rest_list (s:ByteArray) (k:Nat):(rest s k).data.toList = s.data.toList.drop k:=by
 unfold rest;rw [Lib.extract_data,List.take_of_length_le (by simp)]
theorem rest_zero (s:ByteArray):rest s 0 = s:=ext_list (by rw [rest_list];rfl)
theorem rest_size (s:ByteArray) (k:Nat):(rest s k).size = s.size - k:=by rw [← size_list,rest_list,List.length_drop,size_list]
theorem rest_rest (s:ByteArray) (j k:Nat):rest (rest s j) k = rest s (j + k):=ext_list (by rw [rest_list,rest_list,rest_list,List.drop_drop])
theorem head_list (s:ByteArray) (k:Nat):(s.extract 0 k).data.toList = s.data.toList.take k:=by rw [Lib.extract_data];simp
theorem numGo_bad (l:List UInt8):∀ i acc,(numGo i acc l).1 ≠ 0 → (numGo i acc l).2 = (0,0):=by
 induction l with
 | nil => intro i acc _;rfl
 | cons b t ih =>
  intro i acc h;rw [numGo] at h ⊢
  split at h
  ·rename_i hc;rw [if_pos hc]
  ·rename_i hc
   rw [if_neg hc]
   split at h
   ·exact absurd rfl h
   ·rename_i hd;rw [if_neg hd];exact ih _ _ h
theorem numR_bad {l:List UInt8} (h:(numR l).1 ≠ 0):(numR l).2.1 = 0 ∧ (numR l).2.2 = 0:=by
 have:=numGo_bad l 0 0 h;unfold numR;rw [this];exact ⟨rfl,rfl⟩
theorem num_ok {s:ByteArray} (h:(numR s.data.toList).1 = 0):numE s 0 = 0 ∧ numN s 0 = (numR s.data.toList).2.1 ∧ numK s 0 = (numR s.data.toList).2.2:=⟨h,rfl,rfl⟩
theorem num_bad {s:ByteArray} (h:(numR s.data.toList).1 ≠ 0):numE s 0 = (numR s.data.toList).1 ∧ numN s 0 = 0 ∧ numK s 0 = 0:=⟨rfl,(numR_bad h).1,(numR_bad h).2⟩
theorem num_err {s:ByteArray} {e:Int} (h:e ≠ 0):numE s e = e ∧ numN s e = 0 ∧ numK s e = 0:=by
 unfold numE numN numK;rw [if_neg h,if_neg h,if_neg h];exact ⟨rfl,rfl,rfl⟩
theorem read_skip (g:Value) (b:Nat) (s:ByteArray) (e:Int) (w:World) (hb:w.heap[b]? = some (rd s e)) (he:e ≠ 0) :
  Calls Tryz.prog 188 #[.pointer (some ⟨b,0,none⟩),g] w fun e' w' => e' = .returned (.tuple #[]) ∧ Below w.heap.size w w':=by
 have h1:=rd_err (alloc_at (.cells #[.pointer (some ⟨b,0,none⟩)] 223) hb)
 have hne:(e != 0) = true:=by rw [bne_iff_ne];exact he
 clear he
 go_enter_defers Tryz.func188,Tryz.ntmps188
 go_wp2_with fail;exact ⟨_,results_none rfl _ _ _,rfl,(Below.refl _ _).alloc (Nat.le_refl _) _⟩
theorem enterNum (args:Array Value) (w:World):(callFunc 189 args).run Tryz.prog w = .ok (.enter 189 args) w:=by simp [go_sem]
theorem num_any (b:Nat) (s:ByteArray) (e:Int) (w:World) (hb:w.heap[b]? = some (rd s e)) (hs:s.size ≤ 9223372036854775807) :
  Calls Tryz.prog 144 #[.pointer (some ⟨b,0,none⟩)] w fun e' w' => e' = .returned (.int .u64 (numN s e:Nat)) ∧ w'.heap[b]? = some (rd (rest s (numK s e)) (numE s e)) ∧ Kept (· = b) w w':=by
 have hmf:∀ (fn:Fn) (first cap:Array Value) (w:World),(Instr.makeFunc fn first cap).run Tryz.prog w = .ok (.func fn first cap) w:=fun _ _ _ _ => rfl
 have hlt:=lt_of_block hb;have hb1:=alloc_at (.cells #[.int .u64 0] 120) hb
 by_cases he:e = 0
 ·subst he
  by_cases hr:(numR s.data.toList).1 = 0
  ·obtain ⟨e1,e2,e3⟩:=num_ok hr
   rw [e1,e2,e3];have HR:=hid hr;clear e1 e2 e3 hr;go_enter Tryz.func144,Tryz.ntmps144;go_wp2_with fail;refine (read_ok 189 #[.pointer (some ⟨w.heap.size,0,none⟩)] b s (rest s (numR s.data.toList).2.2) _ (fun w2 => w2.heap[b]? = some (rd s 0) ∧ w2.heap[w.heap.size]? = some (.cells #[.int .u64 (numR s.data.toList).2.1] 120 (0,0)) ∧ Kept (· = b) w w2) hb1 (fun _ => enterNum _ _) ?_).mono ?_
   ·intro w1 hbel
    have hq1:=below_at hbel (alloc_new w (.cells #[.int .u64 0] 120)) (by simp);refine (num1_any s w.heap.size 0 w1 hq1 hs).mono ?_
    rintro e' w' (⟨_,rfl,rfl⟩ | ⟨h,_,_⟩)
    ·have hbb:=below_at hbel hb1 (by simp;omega)
     have hb2:=set_other (p:=⟨w.heap.size,0,none⟩) hbb (Nat.ne_of_lt hlt) (.int .u64 (numR s.data.toList).2.1);refine ⟨rfl,hb2,?_,hb2,one_setCell hq1,(((Kept.refl (· = b) w).alloc _).below hbel).setCell (fun h => absurd h (Nat.lt_irrefl _)) _⟩
     rw [World.cell?_setCell_other];intro h;simp at h
    ·exact absurd HR.out h
   ·rintro e' w' ⟨rfl,w2,⟨k1,k2,k3⟩,rfl⟩
    have hc:=cell_of_one (set_other (p:=⟨b,0,none⟩) k2 (Nat.ne_of_gt hlt) (.string (rest s (numR s.data.toList).2.2)));have hfin:=rd_set0 k1 (rest s (numR s.data.toList).2.2);have hK:=k3.setCell (p:=⟨b,0,none⟩) (fun _ => rfl) (.string (rest s (numR s.data.toList).2.2));generalize w2.setCell ⟨b,0,none⟩ (.string (rest s (numR s.data.toList).2.2)) = w3 at *;replace hfin:=hid hfin;go_wp2_with fail;go_ret;exact ⟨rfl,hfin,hK⟩
  ·obtain ⟨e1,e2,e3⟩:=num_bad hr
   rw [e1,e2,e3,rest_zero];have HR:=hid hr;clear e1 e2 e3 hr;go_enter Tryz.func144,Tryz.ntmps144;go_wp2_with fail;refine (read_bad 189 #[.pointer (some ⟨w.heap.size,0,none⟩)] b s (numR s.data.toList).1 _ (fun w2 => w2.heap[b]? = some (rd s 0) ∧ w2.heap[w.heap.size]? = some (.cells #[.int .u64 0] 120 (0,0)) ∧ Kept (· = b) w w2) hb1 (fun _ => enterNum _ _) ?_).mono ?_
   ·intro w1 hbel
    have hq1:=below_at hbel (alloc_new w (.cells #[.int .u64 0] 120)) (by simp);refine (num1_any s w.heap.size 0 w1 hq1 hs).mono ?_
    rintro e' w' (⟨h,_,_⟩ | ⟨_,rfl,rfl⟩)
    ·exact absurd h HR.out
    ·have hbb:=below_at hbel hb1 (by simp;omega)
     exact ⟨rfl,hbb,rfl,hbb,hq1,((Kept.refl (· = b) w).alloc _).below hbel⟩
   ·rintro e' w' ⟨rfl,w2,⟨k1,k2,k3⟩,_,rfl⟩
    have hc:((w2.setCell ⟨b,1,none⟩ (.int .i64 (numR s.data.toList).1)).drew).cell? ⟨w.heap.size,0,none⟩ = some (.int .u64 0):=cell_of_one (set_other (p:=⟨b,1,none⟩) k2 (Nat.ne_of_gt hlt) (.int .i64 (numR s.data.toList).1));have hfin:((w2.setCell ⟨b,1,none⟩ (.int .i64 (numR s.data.toList).1)).drew).heap[b]? = _:=rd_set1 k1 (numR s.data.toList).1;have hK:=(k3.setCell (p:=⟨b,1,none⟩) (fun _ => rfl) (.int .i64 (numR s.data.toList).1)).drew;generalize (w2.setCell ⟨b,1,none⟩ (.int .i64 (numR s.data.toList).1)).drew = w3 at *;replace hfin:=hid hfin
    go_wp2_with fail;go_ret;exact ⟨rfl,hfin,hK⟩
 ·obtain ⟨e1,e2,e3⟩:=num_err (s:=s) he
  rw [e1,e2,e3,rest_zero];have HE:=hid he;clear e1 e2 e3 he;go_enter Tryz.func144,Tryz.ntmps144;go_wp2_with fail;refine (read_skip _ b s e _ hb1 HE.out).mono ?_
  rintro e' w' ⟨rfl,hbel⟩;have hc:=cell_of_one (below_at hbel (alloc_new w (.cells #[.int .u64 0] 120)) (by simp));have hfin:=hid (below_at hbel hb1 (by simp;omega));have hK:=((Kept.refl (· = b) w).alloc (.cells #[.int .u64 0] 120)).below hbel;go_wp2_with fail;go_ret;exact ⟨rfl,hfin,hK⟩
theorem enterTake (args:Array Value) (w:World):(callFunc 224 args).run Tryz.prog w = .ok (.enter 224 args) w:=by simp [go_sem]
theorem take1_ok (s:ByteArray) (p q n:Nat) (x:ByteArray) (w:World) (hp:w.heap[p]? = some (.cells #[.int .i64 (n:Int)] 3 (0,0))) (hq:w.heap[q]? = some (.cells #[.string x] 9 (0,0))) (hpq:p ≠ q) (hn:n ≤ s.size) :
  Calls Tryz.prog 224 #[.string s,.pointer (some ⟨p,0,none⟩),.pointer (some ⟨q,0,none⟩)] w fun e w' => e = .returned (.string (rest s n)) ∧ w' = w.setCell ⟨q,0,none⟩ (.string (s.extract 0 n)):=by
 have h1:=cell_of_one hp;have h2:=cell_of_one hq;have h3:=free_of_one hq;have h4:=cell_of_one (set_other (p:=⟨q,0,none⟩) hp hpq (.string (s.extract 0 n)));go_enter Tryz.func224,Tryz.ntmps224;go_wp2_with fail;refine (must_yes _ _).mono ?_
 rintro e w' ⟨rfl,rfl⟩;go_wp2_with fail;go_ret;exact ⟨rfl,rfl⟩
theorem take1_bad (s:ByteArray) (p q:Nat) (n:Int) (w:World) (hp:w.heap[p]? = some (.cells #[.int .i64 n] 3 (0,0))) (hn:¬ (0 ≤ n ∧ n ≤ s.size)) :
  Calls Tryz.prog 224 #[.string s,.pointer (some ⟨p,0,none⟩),.pointer (some ⟨q,0,none⟩)] w fun e w' => e = .panicked (wrong 2) ∧ w' = w:=by
 have h1:=cell_of_one hp
 by_cases h0:0 ≤ n
 ·have h2:decide (n ≤ (s.size:Int)) = false:=by rw [decide_eq_false_iff_not];omega
  clear hn;go_enter Tryz.func224,Tryz.ntmps224;go_wp2_with fail;refine (must_no _ _).mono ?_
  rintro e w' ⟨rfl,rfl⟩;go_wp2_with fail;exact ⟨rfl,rfl,rfl⟩
 ·have h2:decide (0 ≤ n) = false:=by rw [decide_eq_false_iff_not];exact h0
  clear hn h0;go_enter Tryz.func224,Tryz.ntmps224;go_wp2_with fail;refine (must_no _ _).mono ?_
  rintro e w' ⟨rfl,rfl⟩;go_wp2_with fail;exact ⟨rfl,rfl,rfl⟩
theorem take_ok {s:ByteArray} {n:Int} (h:0 ≤ n ∧ n ≤ s.size):takeE s 0 n = 0 ∧ takeK s 0 n = n.toNat:=by
 unfold takeE takeK;rw [if_pos rfl,if_pos h,if_pos ⟨rfl,h⟩];exact ⟨rfl,rfl⟩
theorem take_bad {s:ByteArray} {n:Int} (h:¬ (0 ≤ n ∧ n ≤ s.size)):takeE s 0 n = 2 ∧ takeK s 0 n = 0:=by
 unfold takeE takeK;rw [if_pos rfl,if_neg h,if_neg (fun h' => h h'.2)];exact ⟨rfl,rfl⟩
theorem take_err {s:ByteArray} {e n:Int} (h:e ≠ 0):takeE s e n = e ∧ takeK s e n = 0:=by
 unfold takeE takeK;rw [if_neg h,if_neg (fun h' => h h'.1)];exact ⟨rfl,rfl⟩
theorem head_zero (s:ByteArray):s.extract 0 0 = ByteArray.empty:=ext_list (by rw [head_list];rfl)
theorem laid2 (w:World) (n:Int):(((w.alloc (.cells #[.int .i64 n] 3)).alloc (.cells #[.string ByteArray.empty] 9))).heap[w.heap.size]? = some (.cells #[.int .i64 n] 3 (0,0)) ∧ (((w.alloc (.cells #[.int .i64 n] 3)).alloc (.cells #[.string ByteArray.empty] 9))).heap[w.heap.size + 1]? = some (.cells #[.string ByteArray.empty] 9 (0,0)):=by
 constructor
 ·exact alloc_at _ (alloc_new w _)
 ·have:=alloc_new (w.alloc (.cells #[.int .i64 n] 3)) (.cells #[.string ByteArray.empty] 9)
  simpa using this
theorem take_any (b:Nat) (s:ByteArray) (e n:Int) (w:World) (hb:w.heap[b]? = some (rd s e)) :
  Calls Tryz.prog 185 #[.pointer (some ⟨b,0,none⟩),.int .i64 n] w fun e' w' => e' = .returned (.string (takeS s e n)) ∧ w'.heap[b]? = some (rd (rest s (takeK s e n)) (takeE s e n)) ∧ Kept (· = b) w w':=by
 have hmf:∀ (fn:Fn) (first cap:Array Value) (w:World),(Instr.makeFunc fn first cap).run Tryz.prog w = .ok (.func fn first cap) w:=fun _ _ _ _ => rfl
 have hlt:=lt_of_block hb;have hb1:=alloc_at (.cells #[.string ByteArray.empty] 9) (alloc_at (.cells #[.int .i64 n] 3) hb);obtain ⟨l1,l2⟩:=laid2 w n;have hK0:=((Kept.refl (· = b) w).alloc (.cells #[.int .i64 n] 3)).alloc (.cells #[.string ByteArray.empty] 9)
 have hz:(((w.alloc (.cells #[.int .i64 n] 3)).alloc (.cells #[.string ByteArray.empty] 9))).heap.size = w.heap.size + 2:=by simp
 unfold takeS
 by_cases he:e = 0
 ·subst he
  by_cases hr:0 ≤ n ∧ n ≤ s.size
  ·obtain ⟨e1,e2⟩:=take_ok hr
   obtain ⟨h0,h1⟩:=hr;rw [e1,e2];obtain ⟨m,rfl⟩:=Int.eq_ofNat_of_zero_le h0
   have hm:m ≤ s.size:=by omega
   rw [Int.toNat_natCast];have L1:=hid l1;have L2:=hid l2;have HZ:=hid hz;clear e1 e2 l1 l2 h0 h1 hz;go_enter Tryz.func185,Tryz.ntmps185;go_wp2_with fail;refine (read_ok 224 #[.pointer (some ⟨w.heap.size,0,none⟩),.pointer (some ⟨w.heap.size + 1,0,none⟩)] b s (rest s m) _ (fun w2 => w2.heap[b]? = some (rd s 0) ∧ w2.heap[w.heap.size + 1]? = some (.cells #[.string (s.extract 0 m)] 9 (0,0)) ∧ Kept (· = b) w w2) hb1 (fun _ => enterTake _ _) ?_).mono ?_
   ·intro w1 hbel
    have hq0:=below_at hbel L1.out (by rw [HZ.out];omega);have hq1:=below_at hbel L2.out (by rw [HZ.out];omega);refine (take1_ok s w.heap.size (w.heap.size + 1) m _ w1 hq0 hq1 (by omega) hm).mono ?_
    rintro e' w' ⟨rfl,rfl⟩;have hbb:=below_at hbel hb1 (by rw [HZ.out];omega);have hb2:=set_other (p:=⟨w.heap.size + 1,0,none⟩) hbb (show b ≠ w.heap.size + 1 by omega) (.string (s.extract 0 m));refine ⟨rfl,hb2,?_,hb2,one_setCell hq1,(hK0.below hbel).setCell (fun h => absurd h (show ¬ w.heap.size + 1 < w.heap.size by omega)) _⟩
    rw [World.cell?_setCell_other];intro h;simp at h
   ·rintro e' w' ⟨rfl,w2,⟨k1,k2,k3⟩,rfl⟩
    have hc:=cell_of_one (set_other (p:=⟨b,0,none⟩) k2 (show w.heap.size + 1 ≠ b by omega) (.string (rest s m)));have hfin:=rd_set0 k1 (rest s m);have hK:=k3.setCell (p:=⟨b,0,none⟩) (fun _ => rfl) (.string (rest s m));generalize w2.setCell ⟨b,0,none⟩ (.string (rest s m)) = w3 at *;replace hfin:=hid hfin;go_wp2_with fail;go_ret;exact ⟨rfl,hfin,hK⟩
  ·obtain ⟨e1,e2⟩:=take_bad hr
   rw [e1,e2,rest_zero,head_zero];have HR:=hid hr;have L1:=hid l1;have L2:=hid l2;have HZ:=hid hz;clear e1 e2 hr l1 l2 hz;go_enter Tryz.func185,Tryz.ntmps185;go_wp2_with fail;refine (read_bad 224 #[.pointer (some ⟨w.heap.size,0,none⟩),.pointer (some ⟨w.heap.size + 1,0,none⟩)] b s 2 _ (fun w2 => w2.heap[b]? = some (rd s 0) ∧ w2.heap[w.heap.size + 1]? = some (.cells #[.string ByteArray.empty] 9 (0,0)) ∧ Kept (· = b) w w2) hb1 (fun _ => enterTake _ _) ?_).mono ?_
   ·intro w1 hbel
    have hq0:=below_at hbel L1.out (by rw [HZ.out];omega);have hq1:=below_at hbel L2.out (by rw [HZ.out];omega);have hbb:=below_at hbel hb1 (by rw [HZ.out];omega);refine (take1_bad s w.heap.size (w.heap.size + 1) n w1 hq0 HR.out).mono ?_
    rintro e' w' ⟨rfl,rfl⟩;exact ⟨rfl,hbb,rfl,hbb,hq1,hK0.below hbel⟩
   ·rintro e' w' ⟨rfl,w2,⟨k1,k2,k3⟩,_,rfl⟩
    have hc:((w2.setCell ⟨b,1,none⟩ (.int .i64 2)).drew).cell? ⟨w.heap.size + 1,0,none⟩ = some (.string ByteArray.empty):=cell_of_one (set_other (p:=⟨b,1,none⟩) k2 (show w.heap.size + 1 ≠ b by omega) (.int .i64 2));have hfin:((w2.setCell ⟨b,1,none⟩ (.int .i64 2)).drew).heap[b]? = _:=rd_set1 k1 2;have hK:=(k3.setCell (p:=⟨b,1,none⟩) (fun _ => rfl) (.int .i64 2)).drew;generalize (w2.setCell ⟨b,1,none⟩ (.int .i64 2)).drew = w3 at *;replace hfin:=hid hfin;go_wp2_with fail;go_ret;exact ⟨rfl,hfin,hK⟩
 ·obtain ⟨e1,e2⟩:=take_err (s:=s) (n:=n) he
  rw [e1,e2,rest_zero,head_zero];have HE:=hid he;have L1:=hid l1;have L2:=hid l2;have HZ:=hid hz;clear e1 e2 he l1 l2 hz;go_enter Tryz.func185,Tryz.ntmps185;go_wp2_with fail;refine (read_skip _ b s e _ hb1 HE.out).mono ?_
  rintro e' w' ⟨rfl,hbel⟩;have hc:=cell_of_one (below_at hbel L2.out (by rw [HZ.out];omega));have hfin:=hid (below_at hbel hb1 (by rw [HZ.out];omega));have hK:=hK0.below hbel;go_wp2_with fail;go_ret;exact ⟨rfl,hfin,hK⟩
theorem left_any (b:Nat) (s:ByteArray) (e:Int) (w:World) (hb:w.heap[b]? = some (rd s e)) :
  Calls Tryz.prog 187 #[.pointer (some ⟨b,0,none⟩)] w fun e' w' => e' = .returned (.int .i64 s.size) ∧ w = w':=by
 have h1:=rd_str hb;go_enter Tryz.func187,Tryz.ntmps187;go_wp2_with fail;go_ret;exact ⟨rfl,rfl⟩
theorem err_any (b:Nat) (s:ByteArray) (e:Int) (w:World) (hb:w.heap[b]? = some (rd s e)) :
  Calls Tryz.prog 186 #[.pointer (some ⟨b,0,none⟩)] w fun e' w' => e' = .returned (.int .i64 e) ∧ w = w':=by
 have h1:=rd_err hb;go_enter Tryz.func186,Tryz.ntmps186;go_wp2_with fail;go_ret;exact ⟨rfl,rfl⟩
def doneE (s:ByteArray) (e:Int):Int:=if e = 0 ∧ s.size ≠ 0 then 5 else e
theorem done_any (b:Nat) (s:ByteArray) (e:Int) (w:World) (hb:w.heap[b]? = some (rd s e)) :
  Calls Tryz.prog 145 #[.pointer (some ⟨b,0,none⟩)] w fun e' w' => e' = .returned (.int .i64 (doneE s e)) ∧ w = w':=by
 have HL:=hid (fun w h => left_any b s e w h);have HE:=hid (fun w h => err_any b s e w h)
 by_cases he:e = 0
 ·subst he
  by_cases hz:s.size = 0
  ·have ed:doneE s 0 = 0:=by unfold doneE;rw [if_neg (fun h => h.2 hz)]
   have hz':((s.size:Int) == 0) = true:=by rw [beq_iff_eq];omega
   rw [ed];clear ed hz;go_enter Tryz.func145,Tryz.ntmps145;go_wp2_with fail;refine (HE.out _ hb).mono ?_
   rintro e w' ⟨rfl,rfl⟩;go_wp2_with fail;refine (HL.out _ hb).mono ?_
   rintro e w' ⟨rfl,rfl⟩;go_wp2_with fail;go_ret;exact ⟨rfl,rfl⟩
  ·have ed:doneE s 0 = 5:=by unfold doneE;rw [if_pos ⟨rfl,hz⟩]
   have hz':((s.size:Int) == 0) = false:=by rw [beq_eq_false_iff_ne];omega
   rw [ed];clear ed hz;go_enter Tryz.func145,Tryz.ntmps145;go_wp2_with fail;refine (HE.out _ hb).mono ?_
   rintro e w' ⟨rfl,rfl⟩;go_wp2_with fail;refine (HL.out _ hb).mono ?_
   rintro e w' ⟨rfl,rfl⟩;go_wp2_with fail;go_ret;exact ⟨rfl,rfl⟩
 ·have ed:doneE s e = e:=by unfold doneE;rw [if_neg (fun h => he h.1)]
  have he':(e != 0) = true:=by rw [bne_iff_ne];exact he
  rw [ed];clear ed he;go_enter Tryz.func145,Tryz.ntmps145;go_wp2_with fail;refine (HE.out _ hb).mono ?_
  rintro e w' ⟨rfl,rfl⟩;go_wp2_with fail;go_ret;exact ⟨rfl,rfl⟩
theorem numGo_lt (l:List UInt8):∀ i acc,i ≤ 9 → acc < 2 ^ (7 * i) → (numGo i acc l).2.1 < W64:=by
 induction l with
 | nil => intro i acc _ _;exact (by decide:(0:Nat) < W64)
 | cons b t ih =>
  intro i acc hi ha;rw [numGo]
  split
  ·exact (by decide:(0:Nat) < W64)
  ·rename_i hb
   have h128:(2:Nat) ^ (7 * (i + 1)) = 128 * 2 ^ (7 * i):=by rw [Nat.mul_add,Nat.pow_add];omega
   split
   ·rename_i hl
    show acc + b.toNat * 2 ^ (7 * i) < W64
    rw [W64_pow]
    rcases (show i = 9 ∨ i < 9 by omega) with h9 | h9
    ·have:=top_shift (x:=b.toNat) h9 ha (by omega)
     rw [Nat.mod_eq_of_lt hl] at this;exact this
    ·have:=(small_shift (x:=b.toNat) h9 ha).2
     rw [Nat.mod_eq_of_lt hl] at this;exact this
   ·rename_i hl
    rcases (show i = 9 ∨ i < 9 by omega) with h9 | h9
    ·omega
    ·exact ih _ _ (by omega) (small_shift (x:=b.toNat) h9 ha).1
theorem numN_lt (s:ByteArray) (e:Int):numN s e < W64:=by
 unfold numN
 split
 ·exact numGo_lt _ 0 0 (by decide) (by decide)
 ·decide
theorem int_any (b:Nat) (s:ByteArray) (e:Int) (w:World) (hb:w.heap[b]? = some (rd s e)) (hs:s.size ≤ 9223372036854775807) :
  Calls Tryz.prog 203 #[.pointer (some ⟨b,0,none⟩)] w fun e' w' => e' = .returned (.int .i64 (zagI (numN s e))) ∧ w'.heap[b]? = some (rd (rest s (numK s e)) (numE s e)) ∧ Kept (· = b) w w':=by
 go_enter Tryz.func203,Tryz.ntmps203;go_wp2_with fail;refine (num_any b s e w hb hs).mono ?_
 rintro e' w1 ⟨rfl,h1,h2⟩;replace h1:=hid h1;go_wp2_with fail;refine (zag_any _ _ (numN_lt s e)).mono ?_
 rintro e' w' ⟨rfl,rfl⟩;go_wp2_with fail;go_ret;exact ⟨rfl,h1,h2⟩
theorem new_any (s:ByteArray) (w:World) :
  Calls Tryz.prog 143 #[.string s] w fun e' w' => e' = .returned (.pointer (some ⟨w.heap.size,0,none⟩)) ∧ w' = w.alloc (rd s 0):=by
 go_enter Tryz.func143,Tryz.ntmps143;go_wp2_with fail;go_ret;exact ⟨rfl,rfl⟩
end Pk
end
section
namespace Pk
open Mem
theorem pow7 (i:Nat):2 ^ (7 * (i + 1)) = 128 * 2 ^ (7 * i):=by rw [Nat.mul_add,Nat.pow_add];omega
theorem byte_nat {m:Nat} (h:m < 256):(UInt8.ofNat m).toNat = m:=by simp [UInt8.toNat_ofNat',Nat.mod_eq_of_lt h]
theorem top_small {n:Nat} (h:n * 2 ^ (7 * 9) < 2 ^ 64):n ≤ 1:=by
 have e:(2:Nat) ^ 64 = 2 * 2 ^ (7 * 9):=by decide
 rw [e] at h;have:=Nat.lt_of_mul_lt_mul_right h;omega
theorem go_put (f:Nat):∀ (i acc n:Nat) (t:List UInt8),f + i = 10 → 0 < f → n * 2 ^ (7 * i) < 2 ^ 64 → (i = 0 ∨ 0 < n) →
  numGo i acc (putF f n ++ t) = (0,acc + n * 2 ^ (7 * i),i + (putF f n).length):=by
 induction f with
 | zero => intro i acc n t _ h0;omega
 | succ f ih =>
  intro i acc n t hf _ hn hi
  have h9:i = 9 → n ≤ 1:=fun h => top_small (by rw [← h];exact hn)
  by_cases hl:n < 128
  ·rw [putF_lt hl]
   show numGo i acc (UInt8.ofNat n :: t) = _
   rw [numGo,byte_nat (by omega),if_neg (by omega),if_pos hl]
   rfl
  ·rw [putF_ge hl]
   show numGo i acc (UInt8.ofNat (n % 128 + 128) :: (putF f (n / 128) ++ t)) = _
   have hi9:i < 9:=by
    rcases (show i = 9 ∨ i < 9 by omega) with h | h
    ·have:=h9 h;omega
    ·exact h
   rw [numGo,byte_nat (by omega),if_neg (by omega),if_neg (by omega)]
   have hq:n / 128 * 2 ^ (7 * (i + 1)) < 2 ^ 64:=by
    rw [pow7,← Nat.mul_assoc];exact Nat.lt_of_le_of_lt (Nat.mul_le_mul_right _ (Nat.div_mul_le_self n 128)) hn
   rw [ih (i + 1) _ (n / 128) t (by omega) (by omega) hq (.inr (by omega)),pow7]
   have e:n * 2 ^ (7 * i) = (n % 128 + 128) % 128 * 2 ^ (7 * i) + n / 128 * (128 * 2 ^ (7 * i)):=by
    rw [← Nat.mul_assoc,← Nat.add_mul]
    congr 1
    omega
   rw [e,List.length_cons]
   congr 2
   ·omega
   ·omega
theorem read_put {n:Nat} (hn:n < W64) (t:List UInt8):numR (putL n ++ t) = (0,n,(putL n).length):=by
 unfold numR putL;rw [go_put 10 0 0 n t (by decide) (by decide) (by rw [W64_pow] at hn;simpa using hn) (.inl rfl)];simp
theorem go_read (l:List UInt8):∀ (i acc m K:Nat),i ≤ 9 → numGo i acc l = (0,m,K) →
  ∃ n,m = acc + n * 2 ^ (7 * i) ∧ (i = 0 ∨ 0 < n) ∧ i < K ∧ K ≤ i + l.length ∧ l.take (K - i) = putF (10 - i) n:=by
 induction l with
 | nil => intro i acc m K _ h;cases h
 | cons b t ih =>
  intro i acc m K hi h;have hb:=UInt8.toNat_lt b;rw [numGo] at h
  by_cases hbad:(i = 9 ∧ 1 < b.toNat) ∨ (0 < i ∧ b.toNat = 0)
  ·rw [if_pos hbad] at h;cases h
  ·rw [if_neg hbad] at h
   by_cases hl:b.toNat < 128
   ·rw [if_pos hl] at h
    simp only [Prod.mk.injEq,true_and] at h;obtain ⟨rfl,rfl⟩:=h;refine ⟨b.toNat,rfl,by omega,by omega,by simp,?_⟩
    rw [show i + 1 - i = 1 from by omega,show 10 - i = (9 - i) + 1 from by omega,putF_lt hl];simp
   ·rw [if_neg hl] at h
    have hi9:i < 9:=by omega
    obtain ⟨n',h1,h2,h3,h4,h5⟩:=ih (i + 1) _ m K (by omega) h
    have hn':0 < n':=by omega
    refine ⟨b.toNat % 128 + 128 * n',?_,by omega,by omega,by simp;omega,?_⟩
    ·rw [h1,pow7,Nat.add_mul,Nat.add_assoc,← Nat.mul_assoc n' 128,Nat.mul_comm n' 128]
    ·have e1:K - i = (K - (i + 1)) + 1:=by omega
     have e2:(b.toNat % 128 + 128 * n') % 128 + 128 = b.toNat:=by omega
     have e3:(b.toNat % 128 + 128 * n') / 128 = n':=by omega
     rw [e1,List.take_succ_cons,h5,show 10 - i = (10 - (i + 1)) + 1 from by omega,putF_ge (by omega),e2,e3];simp
theorem put_read {l:List UInt8} {m K:Nat} (h:numR l = (0,m,K)):l.take K = putL m ∧ 1 ≤ K ∧ K ≤ l.length ∧ K = (putL m).length:=by
 obtain ⟨n,h1,_,h3,h4,h5⟩:=go_read l 0 0 m K (by decide) h
 have e:n = m:=by rw [h1];simp
 subst e;rw [Nat.sub_zero] at h5;have h6:l.take K = putL n:=h5;refine ⟨h6,h3,by omega,?_⟩
 rw [← h6,List.length_take];omega
theorem putL_pos (n:Nat):0 < (putL n).length:=by unfold putL;rw [putF];split <;> simp
end Pk
end
section
namespace Rn
open Mem Pk
def ofStep (acc:List (Nat × Nat)) (x:Nat):List (Nat × Nat):=
 match acc.getLast? with
 | some p => if p.1 = x then acc.dropLast ++ [(p.1,p.2 + 1)] else acc ++ [(x,1)]
 | none => acc ++ [(x,1)]
def ofR (l:List Nat):List (Nat × Nat):=l.foldl ofStep []
def spread (r:List (Nat × Nat)):List Nat:=r.flatMap fun p => List.replicate p.2 p.1
def encR (r:List (Nat × Nat)):List UInt8:=r.flatMap fun p => putL p.1 ++ putL p.2
def encRuns (l:List Nat):List UInt8:=encR (ofR l)
def sumC (r:List (Nat × Nat)):Nat:=(r.map (·.2)).sum
theorem ofStep_nil (x:Nat):ofStep [] x = [(x,1)]:=rfl
theorem ofStep_same (init:List (Nat × Nat)) (v c:Nat):ofStep (init ++ [(v,c)]) v = init ++ [(v,c + 1)]:=by
 unfold ofStep;rw [List.getLast?_concat];simp
theorem ofStep_other (init:List (Nat × Nat)) {v c x:Nat} (h:v ≠ x):ofStep (init ++ [(v,c)]) x = init ++ [(v,c)] ++ [(x,1)]:=by
 unfold ofStep;rw [List.getLast?_concat];simp [h]
theorem ofR_snoc (l:List Nat) (x:Nat):ofR (l ++ [x]) = ofStep (ofR l) x:=by unfold ofR;rw [List.foldl_append];rfl
theorem split_last {α:Type} (l:List α):l = [] ∨ ∃ init x,l = init ++ [x]:=by
 rcases l.eq_nil_or_concat with h | ⟨i,x,h⟩
 ·exact .inl h
 ·exact .inr ⟨i,x,by rw [h];simp⟩
structure Good (r:List (Nat × Nat)):Prop where
 pos:∀ p ∈ r,1 ≤ p.2
 adj:∀ i p q,r[i]? = some p → r[i + 1]? = some q → p.1 ≠ q.1
theorem good_nil:Good []:=⟨fun _ h => by simp at h,fun _ _ _ h => by simp at h⟩
theorem good_step {acc:List (Nat × Nat)} (h:Good acc) (x:Nat):Good (ofStep acc x) ∧ spread (ofStep acc x) = spread acc ++ [x] ∧ (∀ p ∈ ofStep acc x,p.1 = x ∨ ∃ q ∈ acc,q.1 = p.1) ∧ (ofStep acc x).length ≤ acc.length + 1:=by
 rcases split_last acc with rfl | ⟨init,⟨v,c⟩,rfl⟩
 ·refine ⟨⟨fun p hp => ?_,fun i p q h1 h2 => ?_⟩,rfl,fun p hp => ?_,by simp [ofStep_nil]⟩
  ·simp [ofStep_nil] at hp;subst hp;exact Nat.le_refl _
  ·simp [ofStep_nil] at h2
  ·simp [ofStep_nil] at hp;subst hp;exact .inl rfl
 ·by_cases hv:v = x
  ·subst hv
   rw [ofStep_same];refine ⟨⟨fun p hp => ?_,fun i p q h1 h2 => ?_⟩,?_,fun p hp => ?_,by simp⟩
   ·rw [List.mem_append,List.mem_singleton] at hp
    rcases hp with hp | rfl
    ·exact h.pos p (by simp [hp])
    ·exact Nat.le_add_left _ _
   ·have hi:=(List.getElem?_eq_some_iff.1 h2).1
    rw [List.length_append,List.length_singleton] at hi;rw [List.getElem?_append_left (by omega)] at h1
    by_cases hl:i + 1 < init.length
    ·rw [List.getElem?_append_left hl] at h2
     exact h.adj i p q (by rw [List.getElem?_append_left (by omega)];exact h1) (by rw [List.getElem?_append_left hl];exact h2)
    ·rw [List.getElem?_append_right (by omega),show i + 1 - init.length = 0 by omega] at h2
     simp at h2;subst h2;exact h.adj i p (v,c) (by rw [List.getElem?_append_left (by omega)];exact h1) (by rw [List.getElem?_append_right (by omega),show i + 1 - init.length = 0 by omega];rfl)
   ·unfold spread
    simp [List.flatMap_append,List.replicate_succ']
   ·rw [List.mem_append,List.mem_singleton] at hp
    rcases hp with hp | rfl
    ·exact .inr ⟨p,by simp [hp],rfl⟩
    ·exact .inl rfl
  ·rw [ofStep_other init hv]
   refine ⟨⟨fun p hp => ?_,fun i p q h1 h2 => ?_⟩,?_,fun p hp => ?_,by simp⟩
   ·rw [List.mem_append,List.mem_singleton] at hp
    rcases hp with hp | rfl
    ·exact h.pos p hp
    ·exact Nat.le_refl _
   ·have hi:=(List.getElem?_eq_some_iff.1 h2).1
    rw [List.length_append,List.length_singleton] at hi;rw [List.getElem?_append_left (by omega)] at h1
    by_cases hl:i + 1 < (init ++ [(v,c)]).length
    ·rw [List.getElem?_append_left hl] at h2
     exact h.adj i p q h1 h2
    ·rw [List.getElem?_append_right (by omega),show i + 1 - (init ++ [(v,c)]).length = 0 by omega] at h2
     simp at h2;subst h2
     have hl2:(init ++ [(v,c)]).length = init.length + 1:=by simp
     rw [List.getElem?_append_right (by omega),show i - init.length = 0 by omega] at h1;simp at h1;subst h1;exact hv
   ·unfold spread
    simp [List.flatMap_append]
   ·rw [List.mem_append,List.mem_singleton] at hp
    rcases hp with hp | rfl
    ·exact .inr ⟨p,hp,rfl⟩
    ·exact .inl rfl
theorem rev_ind {α:Type} {P:List α → Prop} (h0:P []) (h1:∀ l x,P l → P (l ++ [x])) (l:List α):P l:=by
 have key:∀ n (l:List α),l.length = n → P l:=by
  intro n
  induction n with
  | zero => intro l hl;rw [List.eq_nil_of_length_eq_zero hl];exact h0
  | succ n ih =>
   intro l hl
   rcases split_last l with rfl | ⟨i,x,rfl⟩
   ·exact h0
   ·exact h1 i x (ih i (by simpa using hl))
 exact key _ l rfl
theorem ofR_good (l:List Nat):Good (ofR l) ∧ spread (ofR l) = l ∧ (∀ p ∈ ofR l,p.1 ∈ l) ∧ (ofR l).length ≤ l.length:=by
 induction l using rev_ind with
 | h0 => exact ⟨good_nil,rfl,fun p h => by simp [ofR] at h,Nat.le_refl _⟩
 | h1 l x ih =>
  obtain ⟨h1,h2,h3,h4⟩:=ih;rw [ofR_snoc];obtain ⟨g1,g2,g3,g4⟩:=good_step h1 x;refine ⟨g1,by rw [g2,h2],fun p hp => ?_,by simp;omega⟩
  rcases g3 p hp with h | ⟨q,hq,h⟩
  ·simp [h]
  ·rw [← h];simp [h3 q hq]
theorem spread_len (r:List (Nat × Nat)):(spread r).length = sumC r:=by
 induction r with
 | nil => rfl
 | cons p r ih =>
  have e:spread (p :: r) = List.replicate p.2 p.1 ++ spread r:=rfl
  have e2:sumC (p :: r) = p.2 + sumC r:=by unfold sumC;rw [List.map_cons,List.sum_cons]
  rw [e,e2,List.length_append,List.length_replicate,ih]
theorem sumC_take {r:List (Nat × Nat)} {k:Nat} {p:Nat × Nat} (h:r[k]? = some p):sumC (r.take (k + 1)) = sumC (r.take k) + p.2:=by
 rw [take_snoc h];unfold sumC;simp
theorem sumC_ofR (l:List Nat):sumC (ofR l) = l.length:=by rw [← spread_len,(ofR_good l).2.1]
theorem sumC_mem {r:List (Nat × Nat)} {p:Nat × Nat} (h:p ∈ r):p.2 ≤ sumC r:=by
 induction r with
 | nil => simp at h
 | cons q r ih =>
  have e2:sumC (q :: r) = q.2 + sumC r:=by unfold sumC;rw [List.map_cons,List.sum_cons]
  rw [List.mem_cons] at h
  rcases h with rfl | h
  ·omega
  ·have:=ih h;omega
theorem spread_take {r:List (Nat × Nat)} {k:Nat} {p:Nat × Nat} (h:r[k]? = some p):spread (r.take (k + 1)) = spread (r.take k) ++ List.replicate p.2 p.1:=by
 rw [take_snoc h];unfold spread;simp
theorem encR_take {r:List (Nat × Nat)} {k:Nat} {p:Nat × Nat} (h:r[k]? = some p):encR (r.take (k + 1)) = encR (r.take k) ++ putL p.1 ++ putL p.2:=by
 rw [take_snoc h];unfold encR;simp
theorem encR_drop {r:List (Nat × Nat)} {k:Nat} {p:Nat × Nat} (h:r[k]? = some p):encR (r.drop k) = putL p.1 ++ (putL p.2 ++ encR (r.drop (k + 1))):=by
 rw [drop_cons h];unfold encR;rw [List.flatMap_cons,List.append_assoc]
theorem putL_le (n:Nat):(putL n).length ≤ 10:=putL_length n
theorem encR_len (r:List (Nat × Nat)):(encR r).length ≤ 20 * r.length:=by
 induction r with
 | nil => simp [encR]
 | cons p r ih =>
  have e:encR (p :: r) = putL p.1 ++ putL p.2 ++ encR r:=rfl;rw [e,List.length_append,List.length_append,List.length_cons];have:=putL_le p.1;have:=putL_le p.2;omega
theorem encRuns_len (l:List Nat):(encRuns l).length ≤ 20 * l.length:=by
 have:=encR_len (ofR l);have:=(ofR_good l).2.2.2;unfold encRuns;omega
end Rn
end
section
namespace Dc
open Mem Pk
def wStep (p:List ByteArray × List Nat) (s:ByteArray):List ByteArray × List Nat:=
 if p.1.any (fun x => decide (x = s)) = true then (p.1,p.2 ++ [p.1.findIdx (fun x => decide (x = s))]) else (p.1 ++ [s],p.2 ++ [p.1.length])
def words (l:List ByteArray):List ByteArray × List Nat:=l.foldl wStep ([],[])
def putW (s:ByteArray):List UInt8:=putL s.size ++ s.data.toList
def encW (ws:List ByteArray):List UInt8:=ws.flatMap putW
def encDict (l:List ByteArray):List UInt8:=putL (words l).1.length ++ encW (words l).1 ++ Rn.encRuns (words l).2
theorem words_snoc (l:List ByteArray) (s:ByteArray):words (l ++ [s]) = wStep (words l) s:=by unfold words;rw [List.foldl_append];rfl
theorem words_take {l:List ByteArray} {k:Nat} {s:ByteArray} (h:l[k]? = some s):words (l.take (k + 1)) = wStep (words (l.take k)) s:=by rw [take_snoc h,words_snoc]
theorem wStep_old {ws:List ByteArray} {ats:List Nat} {s:ByteArray} (h:s ∈ ws):wStep (ws,ats) s = (ws,ats ++ [ws.findIdx (fun x => decide (x = s))]):=if_pos (by rw [List.any_eq_true];exact ⟨s,h,decide_eq_true rfl⟩)
theorem wStep_new {ws:List ByteArray} {ats:List Nat} {s:ByteArray} (h:s ∉ ws):wStep (ws,ats) s = (ws ++ [s],ats ++ [ws.length]):=if_neg (fun e => by
 rw [List.any_eq_true] at e;obtain ⟨x,hx,he⟩:=e;rw [decide_eq_true_iff] at he;subst he
 exact h hx)
theorem find_mem {ws:List ByteArray} {s:ByteArray} (h:s ∈ ws):ws.findIdx (fun x => decide (x = s)) < ws.length ∧ ws[ws.findIdx (fun x => decide (x = s))]? = some s:=by
 have h1:ws.findIdx (fun x => decide (x = s)) < ws.length:=List.findIdx_lt_length_of_exists ⟨s,h,decide_eq_true rfl⟩;have h2:=List.findIdx_getElem (w:=h1);refine ⟨h1,?_⟩
 rw [List.getElem?_eq_getElem h1]
 simpa using h2
structure Ok (l:List ByteArray) (ws:List ByteArray) (ats:List Nat):Prop where
 nodup:ws.Nodup
 len:ats.length = l.length
 few:ws.length ≤ l.length
 sub:∀ s ∈ ws,s ∈ l
 at_:∀ (k:Nat) (s:ByteArray),l[k]? = some s → ∃ a,ats[k]? = some a ∧ ws[a]? = some s
theorem ok_step {l ws:List ByteArray} {ats:List Nat} (h:Ok l ws ats) (s:ByteArray):Ok (l ++ [s]) (wStep (ws,ats) s).1 (wStep (ws,ats) s).2:=by
 by_cases hs:s ∈ ws
 ·rw [wStep_old hs]
  obtain ⟨f1,f2⟩:=find_mem hs;refine ⟨h.nodup,by simp [h.len],by have:=h.few;simp;omega,fun x hx => by simp [h.sub x hx],fun k x hx => ?_⟩
  by_cases hk:k < l.length
  ·rw [List.getElem?_append_left hk] at hx
   obtain ⟨a,h1,h2⟩:=h.at_ k x hx;exact ⟨a,by rw [List.getElem?_append_left (by rw [h.len];exact hk)];exact h1,h2⟩
  ·have hk2:=(List.getElem?_eq_some_iff.1 hx).1
   simp only [List.length_append,List.length_singleton] at hk2
   obtain rfl:k = l.length:=by omega
   rw [List.getElem?_append_right (Nat.le_refl _),Nat.sub_self] at hx;simp at hx;subst hx;exact ⟨_,by rw [List.getElem?_append_right (by rw [h.len];exact Nat.le_refl _),h.len,Nat.sub_self];rfl,f2⟩
 ·rw [wStep_new hs]
  refine ⟨?_,by simp [h.len],by have:=h.few;simp;omega,fun x hx => ?_,fun k x hx => ?_⟩
  ·simp only
   rw [List.nodup_append];refine ⟨h.nodup,by simp,fun a ha b hb => ?_⟩
   simp at hb;subst hb
   exact fun e => hs (by rw [← e];exact ha)
  ·simp only [List.mem_append,List.mem_singleton] at hx ⊢
   rcases hx with hx | hx
   ·exact .inl (h.sub x hx)
   ·exact .inr hx
  ·by_cases hk:k < l.length
   ·rw [List.getElem?_append_left hk] at hx
    obtain ⟨a,h1,h2⟩:=h.at_ k x hx;exact ⟨a,by rw [List.getElem?_append_left (by rw [h.len];exact hk)];exact h1,by rw [List.getElem?_append_left (List.getElem?_eq_some_iff.1 h2).1];exact h2⟩
   ·have hk2:=(List.getElem?_eq_some_iff.1 hx).1
    simp only [List.length_append,List.length_singleton] at hk2
    obtain rfl:k = l.length:=by omega
    rw [List.getElem?_append_right (Nat.le_refl _),Nat.sub_self] at hx;simp at hx;subst hx;exact ⟨_,by rw [List.getElem?_append_right (by rw [h.len];exact Nat.le_refl _),h.len,Nat.sub_self];rfl,by simp⟩
theorem words_ok (l:List ByteArray):Ok l (words l).1 (words l).2:=by
 induction l using Rn.rev_ind with
 | h0 => exact ⟨List.nodup_nil,rfl,Nat.le_refl _,fun s h => by simp [words] at h,fun k s h => by simp at h⟩
 | h1 l x ih =>
  rw [words_snoc];have:=ok_step ih x;exact this
theorem words_prefix (l m:List ByteArray):(words l).1 <+: (words (l ++ m)).1 ∧ (words l).2 <+: (words (l ++ m)).2:=by
 induction m using Rn.rev_ind with
 | h0 => rw [List.append_nil];exact ⟨List.prefix_rfl,List.prefix_rfl⟩
 | h1 m x ih =>
  rw [← List.append_assoc,words_snoc];obtain ⟨h1,h2⟩:=ih;generalize words (l ++ m) = p at *;obtain ⟨ws,ats⟩:=p
  by_cases hs:x ∈ ws
  ·rw [wStep_old hs];exact ⟨h1,h2.trans (List.prefix_append _ _)⟩
  ·rw [wStep_new hs];exact ⟨h1.trans (List.prefix_append _ _),h2.trans (List.prefix_append _ _)⟩
theorem words_met (l:List ByteArray) {k a:Nat} (h:(words l).2[k]? = some a):a ≤ (words (l.take k)).1.length ∧ (words (l.take (k + 1))).1.length = max (words (l.take k)).1.length (a + 1) ∧ a < (words l).1.length:=by
 have hok:=words_ok l
 have hk:k < l.length:=by rw [← hok.len];exact (List.getElem?_eq_some_iff.1 h).1
 obtain ⟨s,hs⟩:=some_at hk;have e:=words_take hs;have hok2:=words_ok (l.take k);have hp:=(words_prefix (l.take (k + 1)) (l.drop (k + 1))).2;rw [List.take_append_drop,e] at hp
 have hlk:(words (l.take k)).2.length = k:=by rw [hok2.len,List.length_take];omega
 have hp2:=(words_prefix (l.take (k + 1)) (l.drop (k + 1))).1;rw [List.take_append_drop] at hp2;have hle:=hp2.length_le;generalize words (l.take k) = p at *;obtain ⟨ws,ats⟩:=p;simp only at hlk
 by_cases hm:s ∈ ws
 ·obtain ⟨f1,f2⟩:=find_mem hm
  rw [e,wStep_old hm] at hle;rw [wStep_old hm] at hp
  have ha:a = ws.findIdx (fun x => decide (x = s)):=by
   obtain ⟨t,ht⟩:=hp;rw [← ht,List.getElem?_append_left (by simp;omega),List.getElem?_append_right (by omega),hlk,Nat.sub_self] at h
   simpa using h.symm
  subst ha;rw [e,wStep_old hm];simp only at hle ⊢;exact ⟨by omega,by omega,by omega⟩
 ·rw [e,wStep_new hm] at hle
  rw [wStep_new hm] at hp
  have ha:a = ws.length:=by
   obtain ⟨t,ht⟩:=hp;rw [← ht,List.getElem?_append_left (by simp;omega),List.getElem?_append_right (by omega),hlk,Nat.sub_self] at h
   simpa using h.symm
  subst ha;rw [e,wStep_new hm];simp only [List.length_append,List.length_singleton] at hle ⊢;exact ⟨Nat.le_refl _,by omega,by omega⟩
theorem encW_take {ws:List ByteArray} {k:Nat} {s:ByteArray} (h:ws[k]? = some s):encW (ws.take (k + 1)) = encW (ws.take k) ++ putW s:=by rw [take_snoc h];unfold encW;simp
theorem encW_drop {ws:List ByteArray} {k:Nat} {s:ByteArray} (h:ws[k]? = some s):encW (ws.drop k) = putW s ++ encW (ws.drop (k + 1)):=by rw [drop_cons h];rfl
theorem putW_len (s:ByteArray):(putW s).length ≤ 10 + s.size:=by
 unfold putW;rw [List.length_append,size_list];have:=putL_length s.size;omega
theorem encW_len {ws:List ByteArray} {m:Nat} (h:∀ s ∈ ws,s.size ≤ m):(encW ws).length ≤ (10 + m) * ws.length:=by
 induction ws with
 | nil => simp [encW]
 | cons s ws ih =>
  have e:encW (s :: ws) = putW s ++ encW ws:=rfl;rw [e,List.length_append,List.length_cons,Nat.mul_succ];have:=putW_len s;have:=h s (by simp);have:=ih (fun x hx => h x (by simp [hx]));omega
theorem encDict_len {l:List ByteArray} {m:Nat} (h:∀ s ∈ l,s.size ≤ m):(encDict l).length ≤ 10 + (10 + m) * l.length + 20 * l.length:=by
 have hok:=words_ok l;unfold encDict;rw [List.length_append,List.length_append];have h1:=putL_length (words l).1.length;have h2:=encW_len (ws:=(words l).1) (m:=m) (fun s hs => h s (hok.sub s hs));have h3:=Rn.encRuns_len (words l).2;rw [hok.len] at h3;have h4:(10 + m) * (words l).1.length ≤ (10 + m) * l.length:=Nat.mul_le_mul_left _ hok.few;omega
end Dc
end
section
open Go.RowKit
namespace Rn
open Mem
theorem mul_one (c:Nat) (w:World) (hc:c < 18446744073709551616) :
  Calls Tryz.prog 235 #[.int .u64 1,.int .u64 c] w fun e w' => e = .returned (.tuple #[.int .u64 0,.int .u64 c]) ∧ w = w':=by
 have H:=hid (Tryz.bits_Mul64 1 c (by decide) hc w);rw [Nat.one_mul,Nat.div_eq_of_lt hc,Nat.mod_eq_of_lt hc] at H;go_enter Tryz.func235,Tryz.ntmps235;go_wp2_with fail;refine H.out.mono ?_
 rintro e w' ⟨rfl,rfl⟩;go_wp2_with fail;go_ret2;exact ⟨rfl,rfl⟩
theorem rep_splice (x z:Value) {k m c:Nat} (h:k + m ≤ c):splice (List.replicate k x ++ List.replicate (c - k) z) k (List.replicate m x) = List.replicate (k + m) x ++ List.replicate (c - (k + m)) z:=by
 unfold splice;rw [List.length_replicate,List.take_append_of_le_length (by simp),List.take_of_length_le (by simp),List.drop_append,List.drop_eq_nil_of_le (by simp),List.nil_append,List.length_replicate,List.drop_replicate,← List.append_assoc,List.replicate_append_replicate]
 congr 2
 omega
theorem made_rep (z:Value) (n:Nat):(madeCells #[z] n).toList = List.replicate n z:=toList_madeCells_one z n
theorem own_row {w:World} {B:Nat} {e:TypeId} {g c:Nat} {l:List Value} (hg:w.heap[g]? = some (.cells l.toArray e (0,0))) (hB:B ≤ g) (hl:l.length = c) (hm:c ≤ maxLen):w.ownsRow B e 1 (.slice (some ⟨g,0,none⟩) c c) c l:=
 ⟨by omega,.inr ⟨g,c,l.toArray,rfl,hB,hg,Nat.le_refl _,hm,by simp [hl],by simp [List.take_of_length_le (show l.length ≤ c by omega)]⟩⟩
theorem row_own {w:World} {B:Nat} {e:TypeId} {g c:Nat} {l:List Value} (h:w.ownsRow B e 1 (.slice (some ⟨g,0,none⟩) c c) c l):w.heap[g]? = some (.cells l.toArray e (0,0)):=by
 rcases h.2 with ⟨h',_⟩ | ⟨g',cap',cur,h',_,hg,_,_,hs,ht⟩
 ·cases h'
 ·cases h'
  rw [hg,← ht,List.take_of_length_le (by rw [Array.length_toList];omega)]
theorem cell_rep {w:World} {g c k:Nat} {x z:Value} {e:TypeId} (hg:w.heap[g]? = some (.cells (List.replicate k x ++ List.replicate (c - k) z).toArray e (0,0))) {j:Nat} (hj:j < k):w.cell? ⟨g,j,none⟩ = some x:=by
 rw [cell_at hg];simp [List.getElem?_append_left,hj]
theorem rep_src {W:World} {a:Addr} {x:Value} {k:Nat} (h:∀ j,j < k → W.cell? (a.add j) = some x):∀ j v,(List.replicate k x)[j]? = some v → W.cell? (a.add j) = some v:=by
 intro j v hj;rw [List.getElem?_replicate] at hj
 split at hj
 ·rename_i h1
  cases hj
  exact h j h1
 ·cases hj
theorem repeatU_any (b off cap:Nat) (x:Value) (hx1:x.oneCell' = true) (c:Nat) (w:World) (hb:w.cell? ⟨b,off,none⟩ = some x) (hc:c ≤ 5000) :
  Calls Tryz.prog 228 #[.slice (some ⟨b,off,none⟩) 1 cap,.int .i64 c] w fun e w' => (∃ v,e = .returned v ∧ w'.ownsRow w.heap.size 120 1 v c (List.replicate c x) ∧ v ≠ .slice none 0 0) ∧ Below w.heap.size w w':=by
 obtain ⟨i0,hi,hz0,hz1,hz2⟩:=info_parts infoU
 have hsz:(Tryz.prog.info? 120).map (·.size) = some 1:=by rw [hi];simp [hz1]
 have h0:(0:Int) ≤ (c:Int):=by omega
 have hcw:IntKind.u64.wrap (c:Int) = (c:Int):=by rw [IntKind.wrap_u64];omega
 have hcw2:IntKind.i64.wrap (c:Int) = (c:Int):=IntWalk.i64_in _ (by omega);have HM:=hid (fun W => mul_one c W (by omega));have hbl:=World.block_lt_of_cell? _ _ hb;have hcb:decide ((9223372036854775807:Int) < (c:Int)) = false:=decide_eq_false (by omega);have HX:=hid hx1;clear hx1;obtain ⟨w1,hmk,hown,hgrow⟩:=run_make_full (P:=Tryz.prog) w w.heap.size 162 120 i0 (Value.int .u64 0) 1 Tryz.underlying162 hi hz0 hz1 .i64 .i64 c (by rw [hz2];omega) (by unfold maxLen;omega) (Nat.le_refl _);have hg0:=row_own hown;rw [Nat.mul_one] at hg0
 change w1.heap[w.heap.size]? = some (.cells (madeCells #[(Value.int .u64 0)] c).toList.toArray 120 (0,0)) at hg0
 rw [made_rep] at hg0;have hb1:Below w.heap.size w w1:=(Below.refl _ _).grown hgrow (Nat.le_refl _) (by simp);have hcx:w1.cell? ⟨b,off,none⟩ = some x:=(hb1.cell (p:=⟨b,off,none⟩) hbl).trans hb;replace hb1:=hid hb1;replace hg0:=hid hg0;have hcx':=hid hcx;clear hown hgrow hb hcb hcx;obtain ⟨k0,hk0⟩:∃ k0,min 1 c = k0:=⟨_,rfl⟩;have hmn:Nat.min 1 c = k0:=hk0
 have hk1:k0 ≤ c:=by omega
 have hk2:0 < c → 0 < k0:=by omega
 have hk3:k0 ≤ 1:=by omega
 have hrs:Hid (splice (List.replicate c (Value.int .u64 0)) 0 (List.replicate k0 x) = List.replicate k0 x ++ List.replicate (c - k0) (Value.int .u64 0)):=hid (by
  have:=rep_splice x (Value.int .u64 0) (k:=0) (m:=k0) (c:=c) (by omega)
  rwa [List.replicate_zero,List.nil_append,Nat.sub_zero,Nat.zero_add] at this)
 clear hk0;have hsrc:=hid (rep_src (W:=w1) (a:=⟨b,off,none⟩) (x:=x) (k:=k0) (fun j hj => by rw [show j = 0 by omega,show (⟨b,off,none⟩:Addr).add 0 = ⟨b,off,none⟩ by unfold Addr.add;simp];exact hcx'.out));go_enter Tryz.func228,Tryz.ntmps228;go_wp2_with fail;refine (HM.out _).mono ?_
 rintro e w' ⟨rfl,rfl⟩
 go_wp2_with (refine wpList_copy_spliceK (by rfl) _ _ 162 162 (by rfl) 120 1 Tryz.underlying162 hsz _ _ _ _ _ _ (by rfl) (by rfl) w.heap.size 0 (List.replicate c (Value.int .u64 0)) 120 hg0.out (List.replicate k0 x) k0 hmn (by simp) (fun _ => ⟨rfl,_,rfl,hsrc.out⟩) (by simp;omega) (fun v hv => by rw [List.eq_of_mem_replicate hv];exact HX.out) ?_;intro w2 hg2 hB2 _)
 rw [hrs.out] at hg2;have hb2:=hid (hB2.out _ _ hb1.out (Nat.le_refl _));clear hB2 hrs hmk;go_wp2_with fail
 go_loopw [8] (fun i wr => ∃ k:Nat,i = .int .i64 k ∧ k ≤ c ∧ (0 < c → 0 < k) ∧ Hid (wr.heap[w.heap.size]? = some (.cells (List.replicate k x ++ List.replicate (c - k) (Value.int .u64 0)).toArray 120 (0,0))) ∧ Hid (Below w.heap.size w wr)) (fun i _ => c - (intOf i).toNat)
 case atStart => exact ⟨k0,rfl,hk1,hk2,hg2,hb2⟩
 case round =>
  clear hg2 hb2;obtain ⟨k,rfl,hk,hkp,hg,hb⟩:=hrel
  by_cases hlt:k < c
  ·have hlt':(k:Int) < (c:Int):=by omega
   have hk0':0 < k:=hkp (by omega)
   have hi0:(0:Int) ≤ (k:Int):=by omega
   have hi1:(k:Int) ≤ (c:Int):=by omega
   have hck:¬ (c = k):=by omega
   obtain ⟨m,hm⟩:∃ m,min k (c - k) = m:=⟨_,rfl⟩;have hmn2:Nat.min k (c - k) = m:=hm
   have hm1:k + m ≤ c:=by omega
   have hm2:0 < m:=by omega
   have hrs:=hid (rep_splice x (Value.int .u64 0) hm1)
   have hln:(List.replicate k x ++ List.replicate (c - k) (Value.int .u64 0)).length = c:=by simp;omega
   have hsum:IntKind.i64.wrap ((k:Int) + (m:Int)) = (k:Int) + (m:Int):=IntWalk.i64_in _ (by omega);have hsrc2:=hid (rep_src (W:=wr) (a:=⟨w.heap.size,0,none⟩) (x:=x) (k:=m) (fun j hj => by rw [show (⟨w.heap.size,0,none⟩:Addr).add j = ⟨w.heap.size,j,none⟩ by unfold Addr.add;split <;> simp_all];exact cell_rep hg.out (by omega)));clear hm;go_wp2_with fail
   go_region_held3 (fun W:World => Below 0 W W) (exact Below.refl _ _) ((refine step_copy_spliceK (by rfl) (.tmp 41) (.tmp 44) 162 162 (by rfl) 120 1 Tryz.underlying162 hsz _ _ _ _ _ _ (by rfl) (by rfl) w.heap.size k (List.replicate k x ++ List.replicate (c - k) (Value.int .u64 0)) 120 hg.out (List.replicate m x) m hmn2 (by simp) (fun _ => ⟨rfl,⟨w.heap.size,0,none⟩,rfl,hsrc2.out⟩) (by rw [hln,List.length_replicate];exact hm1) (fun v hv => by rw [List.eq_of_mem_replicate hv];exact HX.out) ?_;intro w3 hg3 hB3 _))
   all_goals
    rw [hrs.out] at hg3;have hb3:=hid (hB3.out _ _ hb.out.drew (Nat.le_refl _));clear hB3;go_wp2_with fail
    go_roundw
    case rel => exact ⟨k + m,by go_num,by omega,by omega,hg3,hb3⟩
    case measure => simp [intOf];omega
  ·obtain rfl:k = c:=by omega
   have hge:¬ ((k:Int) < (k:Int)):=by omega
   rw [Nat.sub_self,List.replicate_zero,List.append_nil] at hg;go_wp2_with fail;go_ret;exact ⟨⟨_,rfl,own_row hg.out (Nat.le_refl _) (by simp) (by unfold maxLen;omega),by simp⟩,hb.out⟩
theorem repeatB_any (b off cap:Nat) (x:Value) (hx1:x.oneCell' = true) (c:Nat) (w:World) (hb:w.cell? ⟨b,off,none⟩ = some x) (hc:c ≤ 5000) :
  Calls Tryz.prog 236 #[.slice (some ⟨b,off,none⟩) 1 cap,.int .i64 c] w fun e w' => (∃ v,e = .returned v ∧ w'.ownsRow w.heap.size 4 1 v c (List.replicate c x) ∧ v ≠ .slice none 0 0) ∧ Below w.heap.size w w':=by
 obtain ⟨i0,hi,hz0,hz1,hz2⟩:=info_parts infoBool
 have hsz:(Tryz.prog.info? 4).map (·.size) = some 1:=by rw [hi];simp [hz1]
 have h0:(0:Int) ≤ (c:Int):=by omega
 have hcw:IntKind.u64.wrap (c:Int) = (c:Int):=by rw [IntKind.wrap_u64];omega
 have hcw2:IntKind.i64.wrap (c:Int) = (c:Int):=IntWalk.i64_in _ (by omega);have HM:=hid (fun W => mul_one c W (by omega));have hbl:=World.block_lt_of_cell? _ _ hb;have hcb:decide ((9223372036854775807:Int) < (c:Int)) = false:=decide_eq_false (by omega);have HX:=hid hx1;clear hx1;obtain ⟨w1,hmk,hown,hgrow⟩:=run_make_full (P:=Tryz.prog) w w.heap.size 216 4 i0 (Value.bool false) 1 Tryz.underlying216 hi hz0 hz1 .i64 .i64 c (by rw [hz2];omega) (by unfold maxLen;omega) (Nat.le_refl _);have hg0:=row_own hown;rw [Nat.mul_one] at hg0
 change w1.heap[w.heap.size]? = some (.cells (madeCells #[(Value.bool false)] c).toList.toArray 4 (0,0)) at hg0
 rw [made_rep] at hg0;have hb1:Below w.heap.size w w1:=(Below.refl _ _).grown hgrow (Nat.le_refl _) (by simp);have hcx:w1.cell? ⟨b,off,none⟩ = some x:=(hb1.cell (p:=⟨b,off,none⟩) hbl).trans hb;replace hb1:=hid hb1;replace hg0:=hid hg0;have hcx':=hid hcx;clear hown hgrow hb hcb hcx;obtain ⟨k0,hk0⟩:∃ k0,min 1 c = k0:=⟨_,rfl⟩;have hmn:Nat.min 1 c = k0:=hk0
 have hk1:k0 ≤ c:=by omega
 have hk2:0 < c → 0 < k0:=by omega
 have hk3:k0 ≤ 1:=by omega
 have hrs:Hid (splice (List.replicate c (Value.bool false)) 0 (List.replicate k0 x) = List.replicate k0 x ++ List.replicate (c - k0) (Value.bool false)):=hid (by
  have:=rep_splice x (Value.bool false) (k:=0) (m:=k0) (c:=c) (by omega)
  rwa [List.replicate_zero,List.nil_append,Nat.sub_zero,Nat.zero_add] at this)
 clear hk0;have hsrc:=hid (rep_src (W:=w1) (a:=⟨b,off,none⟩) (x:=x) (k:=k0) (fun j hj => by rw [show j = 0 by omega,show (⟨b,off,none⟩:Addr).add 0 = ⟨b,off,none⟩ by unfold Addr.add;simp];exact hcx'.out));go_enter Tryz.func236,Tryz.ntmps236;go_wp2_with fail;refine (HM.out _).mono ?_
 rintro e w' ⟨rfl,rfl⟩
 go_wp2_with (refine wpList_copy_spliceK (by rfl) _ _ 216 216 (by rfl) 4 1 Tryz.underlying216 hsz _ _ _ _ _ _ (by rfl) (by rfl) w.heap.size 0 (List.replicate c (Value.bool false)) 4 hg0.out (List.replicate k0 x) k0 hmn (by simp) (fun _ => ⟨rfl,_,rfl,hsrc.out⟩) (by simp;omega) (fun v hv => by rw [List.eq_of_mem_replicate hv];exact HX.out) ?_;intro w2 hg2 hB2 _)
 rw [hrs.out] at hg2;have hb2:=hid (hB2.out _ _ hb1.out (Nat.le_refl _));clear hB2 hrs hmk;go_wp2_with fail
 go_loopw [8] (fun i wr => ∃ k:Nat,i = .int .i64 k ∧ k ≤ c ∧ (0 < c → 0 < k) ∧ Hid (wr.heap[w.heap.size]? = some (.cells (List.replicate k x ++ List.replicate (c - k) (Value.bool false)).toArray 4 (0,0))) ∧ Hid (Below w.heap.size w wr)) (fun i _ => c - (intOf i).toNat)
 case atStart => exact ⟨k0,rfl,hk1,hk2,hg2,hb2⟩
 case round =>
  clear hg2 hb2;obtain ⟨k,rfl,hk,hkp,hg,hb⟩:=hrel
  by_cases hlt:k < c
  ·have hlt':(k:Int) < (c:Int):=by omega
   have hk0':0 < k:=hkp (by omega)
   have hi0:(0:Int) ≤ (k:Int):=by omega
   have hi1:(k:Int) ≤ (c:Int):=by omega
   have hck:¬ (c = k):=by omega
   obtain ⟨m,hm⟩:∃ m,min k (c - k) = m:=⟨_,rfl⟩;have hmn2:Nat.min k (c - k) = m:=hm
   have hm1:k + m ≤ c:=by omega
   have hm2:0 < m:=by omega
   have hrs:=hid (rep_splice x (Value.bool false) hm1)
   have hln:(List.replicate k x ++ List.replicate (c - k) (Value.bool false)).length = c:=by simp;omega
   have hsum:IntKind.i64.wrap ((k:Int) + (m:Int)) = (k:Int) + (m:Int):=IntWalk.i64_in _ (by omega);have hsrc2:=hid (rep_src (W:=wr) (a:=⟨w.heap.size,0,none⟩) (x:=x) (k:=m) (fun j hj => by rw [show (⟨w.heap.size,0,none⟩:Addr).add j = ⟨w.heap.size,j,none⟩ by unfold Addr.add;split <;> simp_all];exact cell_rep hg.out (by omega)));clear hm;go_wp2_with fail
   go_region_held3 (fun W:World => Below 0 W W) (exact Below.refl _ _) ((refine step_copy_spliceK (by rfl) (.tmp 41) (.tmp 44) 216 216 (by rfl) 4 1 Tryz.underlying216 hsz _ _ _ _ _ _ (by rfl) (by rfl) w.heap.size k (List.replicate k x ++ List.replicate (c - k) (Value.bool false)) 4 hg.out (List.replicate m x) m hmn2 (by simp) (fun _ => ⟨rfl,⟨w.heap.size,0,none⟩,rfl,hsrc2.out⟩) (by rw [hln,List.length_replicate];exact hm1) (fun v hv => by rw [List.eq_of_mem_replicate hv];exact HX.out) ?_;intro w3 hg3 hB3 _))
   all_goals
    rw [hrs.out] at hg3;have hb3:=hid (hB3.out _ _ hb.out.drew (Nat.le_refl _));clear hB3;go_wp2_with fail
    go_roundw
    case rel => exact ⟨k + m,by go_num,by omega,by omega,hg3,hb3⟩
    case measure => simp [intOf];omega
  ·obtain rfl:k = c:=by omega
   have hge:¬ ((k:Int) < (k:Int)):=by omega
   rw [Nat.sub_self,List.replicate_zero,List.append_nil] at hg;go_wp2_with fail;go_ret;exact ⟨⟨_,rfl,own_row hg.out (Nat.le_refl _) (by simp) (by unfold maxLen;omega),by simp⟩,hb.out⟩
end Rn
end
section
open Go.RowKit Go.Shelf
namespace Bd
open Mem Pk
theorem own_cells {w:World} {base:Nat} {e:TypeId} {v:Value} {n:Nat} {xs:List Value} (h:w.ownsRow base e 1 v n xs):∀ (j:Nat) (o:Obj),v.ownBlock = some j → w.heap[j]? = some o → o.isCells = true:=by
 intro j o hj ho
 rcases h.2 with ⟨rfl,_⟩ | ⟨g,cap,cur,rfl,_,hh,_⟩
 ·cases hj
 ·have e:g = j:=by simpa [Value.ownBlock] using hj
  subst e;rw [hh] at ho
  cases ho
  rfl
theorem own_setCell {w:World} {base:Nat} {e:TypeId} {v:Value} {n:Nat} {xs:List Value} (h:w.ownsRow base e 1 v n xs) {p:Addr} (hp:p.block < base) (u:Value):(w.setCell p u).ownsRow base e 1 v n xs:=by
 refine ⟨h.1,?_⟩
 rcases h.2 with h2 | ⟨g,cap,cur,ev,hg,hh,r⟩
 ·exact .inl h2
 ·exact .inr ⟨g,cap,cur,ev,hg,set_other hh (by omega) _,r⟩
theorem own_slice {w:World} {base:Nat} {e:TypeId} {v:Value} {n:Nat} {xs:List Value} (h:w.ownsRow base e 1 v n xs):∃ b cap,v = .slice b n cap:=by
 rcases h.2 with ⟨rfl,rfl⟩ | ⟨g,cap,cur,rfl,_⟩
 ·exact ⟨none,0,rfl⟩
 ·exact ⟨_,cap,rfl⟩
theorem own8_kept {T:Nat → Prop} {w w':World} {B:Nat} {v:Value} {n:Nat} {xs:List Value} (k:Kept T w w') (h:w.ownsRow B 5 1 v n xs) (hT:∀ k,B ≤ k → ¬ T k):w'.ownsRow B 5 1 v n xs:=by
 refine ⟨h.1,?_⟩
 rcases h.2 with h2 | ⟨g,cap,cur,ev,hg,hh,r⟩
 ·exact .inl h2
 ·exact .inr ⟨g,cap,cur,ev,hg,k.at hh (hT g hg),r⟩
theorem infoB:(Tryz.prog.info? 143).map (·.size) = some 2:=by kernel_rfl
theorem liesB:liesAt Tryz.prog Tryz.prog.depth 143 (2 / Tryz.prog.cellsOf 143) 0 143 1 = true:=by kernel_rfl
def bd (p v:Value):Obj:=.cells #[p,v] 143
theorem check_used (b:Nat) (v:Value) (w:World) (hb:w.heap[b]? = some (bd (.pointer (some ⟨b,0,none⟩)) v)) :
  Calls Tryz.prog 126 #[.pointer (some ⟨b,0,none⟩)] w fun e w' => e = .returned (.tuple #[]) ∧ w' = w:=by
 have h0:w.cell? ⟨b,0,none⟩ = some (.pointer (some ⟨b,0,none⟩)):=(cell_at hb 0).trans rfl
 have hne:=fun (w:World) => Lib.run_neq_ptr_same (P:=Tryz.prog) w (tp:=141) (te:=143) ⟨b,0,none⟩ Tryz.underlying141 (Option.map_eq_some_iff.1 infoB).choose_spec.1
 go_enter Tryz.func126,Tryz.ntmps126;go_wp2_with fail
 go_end0
 exact ⟨rfl,rfl⟩
theorem check_fresh (b:Nat) (v:Value) (w:World) (hb:w.heap[b]? = some (bd (.pointer none) v)) :
  Calls Tryz.prog 126 #[.pointer (some ⟨b,0,none⟩)] w fun e w' => e = .returned (.tuple #[]) ∧ w' = w.setCell ⟨b,0,none⟩ (.pointer (some ⟨b,0,none⟩)):=by
 have h0:w.cell? ⟨b,0,none⟩ = some (.pointer none):=(cell_at hb 0).trans rfl;have hf:w.frozen? ⟨b,0,none⟩ = false:=free_at hb 0
 have hsh:w.shape? b = some (143,2):=by simp [World.shape?,hb,bd]
 obtain ⟨j,hj,hjs⟩:=Option.map_eq_some_iff.1 infoB;have r1:=Lib.run_to_unsafe (P:=Tryz.prog) w ⟨b,0,none⟩ Tryz.underlying141 Tryz.underlying256 hj (by rw [hjs];decide) hsh (Nat.zero_lt_succ 1);have r2:=run_callFunc_extern (P:=Tryz.prog) Tryz.func173 (by kernel_rfl) (by kernel_rfl) (by kernel_rfl) (e:=Extern.AbiNoEscape.same) (by kernel_rfl);have r3:=Lib.run_from_unsafe (P:=Tryz.prog) w ⟨b,0,none⟩ Tryz.underlying256 Tryz.underlying141 hj hsh liesB;go_enter Tryz.func126,Tryz.ntmps126;go_wp2;rw [Lib.run_noEscape];simp only [Result.andThen];rw [Oper.upon_value];go_wp2
 go_end0
 exact ⟨rfl,rfl⟩
theorem check_any (b:Nat) (p v:Value) (hp:p = .pointer none ∨ p = .pointer (some ⟨b,0,none⟩)) (w:World) (hb:w.heap[b]? = some (bd p v)) :
  Calls Tryz.prog 126 #[.pointer (some ⟨b,0,none⟩)] w fun e w' => e = .returned (.tuple #[]) ∧ w'.heap[b]? = some (bd (.pointer (some ⟨b,0,none⟩)) v) ∧ Kept (· = b) w w' ∧ KeepsOthers w w':=by
 rcases hp with rfl | rfl
 ·refine (check_fresh b v w hb).mono ?_
  rintro e w' ⟨rfl,rfl⟩;exact ⟨rfl,(set_at hb 0 _).trans rfl,(Kept.refl (· = b) w).setCell (p:=⟨b,0,none⟩) (fun _ => rfl) _,KeepsOthers.setCell _ _ _⟩
 ·refine (check_used b v w hb).mono ?_
  rintro e w' ⟨rfl,rfl⟩;exact ⟨rfl,hb,Kept.refl _ _,KeepsOthers.refl _⟩
theorem wstr_any (b B:Nat) (p v:Value) (hp:p = .pointer none ∨ p = .pointer (some ⟨b,0,none⟩)) (l:List UInt8) (s:ByteArray) (w:World) (hb:w.heap[b]? = some (bd p v)) (hO:Own8 w B v l) (hbB:b < B) (hBw:B ≤ w.heap.size) (hl:l.length ≤ 100000) (hs:s.size ≤ 100000) :
  Calls Tryz.prog 81 #[.pointer (some ⟨b,0,none⟩),.string s] w fun e w' => e = .returned (.tuple #[.int .i64 s.size,.nilIface]) ∧ (∃ v',w'.heap[b]? = some (bd (.pointer (some ⟨b,0,none⟩)) v') ∧ Own8 w' B v' (l ++ s.data.toList)) ∧ Kept (fun k => k = b ∨ B ≤ k) w w' ∧ KeepsOthers w w':=by
 obtain ⟨i0,hi,hz0,hz1,hz2⟩:=info_parts info8;have HC:=hid (check_any b p v hp w hb);have HB:=hid hb;clear hb hp;go_enter Tryz.func81,Tryz.ntmps81;go_wp2_with fail;refine HC.out.mono ?_
 rintro e w1 ⟨rfl,hb1,k1,o1⟩;have hO1:w1.ownsRow B 5 1 v l.length (cells8 l):=own8_kept k1 hO (fun k hk h => by subst h;omega);have c0:w1.cell? ⟨b,0,none⟩ = some (.pointer (some ⟨b,0,none⟩)):=(cell_at hb1 0).trans rfl;have c1:w1.cell? ⟨b,1,none⟩ = some v:=(cell_at hb1 1).trans rfl;have hs1:=k1.size
 go_wp2_with (at_builtin;refine Lib.wpList_append_own_string _ rfl _ _ 76 9 rfl B 5 i0 Tryz.underlying76 Tryz.underlying9 hi hz0 hz1 hz2 _ _ _ rfl hO1 s rfl (by unfold maxLen;omega) (by omega) (by omega) ?_;intro v2 w2 hown hgrow _;obtain ⟨bx,cx,rfl⟩:=own_slice hown;have hb2:w2.heap[b]? = some (bd (.pointer (some ⟨b,0,none⟩)) v):=(hgrow.block b (lt_of_block hb1) (fun e => by have:=(hO1.lt _ e.symm).1;omega)).trans hb1;have d0:w2.cell? ⟨b,0,none⟩ = some (.pointer (some ⟨b,0,none⟩)):=(cell_at hb2 0).trans rfl;have d1:w2.cell? ⟨b,1,none⟩ = some v:=(cell_at hb2 1).trans rfl;have f1:w2.frozen? ⟨b,1,none⟩ = false:=free_at hb2 1)
 go_ret2;have hKa:Kept (fun k => k = b ∨ B ≤ k) w w1:=k1.mono (fun i hi h => .inl h);refine ⟨rfl,⟨_,(set_at hb2 1 _).trans rfl,?_⟩,(hKa.grown hgrow (fun k er _ => .inr (hO1.lt k er).1)).setCell (p:=⟨b,1,none⟩) (fun _ => .inl rfl) _,o1.trans ((KeepsOthers.of_grownBy hgrow (fun j o e h => own_cells hO1 j o e h)).trans (KeepsOthers.setCell _ _ _))⟩
 unfold Own8;rw [cells8_append,List.length_append,size_list];exact own_setCell hown hbB _
theorem own8_less {w:World} {B C:Nat} {v:Value} {l:List UInt8} (h:Own8 w B v l) (hC:C ≤ B):Own8 w C v l:=by
 refine ⟨h.1,?_⟩
 rcases h.2 with h2 | ⟨g,cap,cur,ev,hg,hh,r⟩
 ·exact .inl h2
 ·exact .inr ⟨g,cap,cur,ev,Nat.le_trans hC hg,hh,r⟩
theorem builder_of {w:World} {b B:Nat} {p v:Value} {l:List UInt8} (hp:p = .pointer none ∨ p = .pointer (some ⟨b,0,none⟩)) (hb:w.heap[b]? = some (bd p v)) (hO:Own8 w B v l) (hbB:b < B):Lib.IsBuilder 143 5 b b (Lib.byteCells l) w:=by
 have hO2:w.ownsRow b 5 1 v (Lib.byteCells l).length (Lib.byteCells l):=by
  have h1:=own8_less hO (Nat.le_of_lt hbB)
  have e:(Lib.byteCells l).length = l.length:=by unfold Lib.byteCells;simp
  rw [e];exact h1
 have hne:v.ownBlock ≠ some b:=by
  rcases hO.2 with ⟨rfl,_⟩ | ⟨g,cap,cur,rfl,hg,_⟩
  ·simp [Value.ownBlock]
  ·simp [Value.ownBlock];omega
 rcases hp with rfl | rfl
 ·exact .inl ⟨Nat.le_refl _,v,hb,hO2,hne⟩
 ·exact .inr ⟨Nat.le_refl _,v,hb,hO2,hne⟩
end Bd
end
section
namespace Crc
def poly:Nat:=3988292384
def all:Nat:=4294967295
def lid:Nat:=4294967296
def bit1 (x:Nat):Nat:=if x % 2 = 1 then (x / 2) ^^^ poly else x / 2
def bitN:Nat → Nat → Nat
 | 0,x => x
 | n + 1,x => bit1 (bitN n x)
theorem lid_pow:lid = 2 ^ 32:=rfl
theorem xor_lt {x y:Nat} (h:x < lid) (h':y < lid):x ^^^ y < lid:=by
 rw [lid_pow] at *;exact Nat.xor_lt_two_pow h h'
theorem poly_lt:poly < lid:=by decide
theorem bit1_lt {x:Nat} (h:x < lid):bit1 x < lid:=by
 unfold bit1
 split
 ·exact xor_lt (by unfold lid at *;omega) poly_lt
 ·unfold lid at *;omega
theorem bitN_lt {x:Nat} (h:x < lid) (n:Nat):bitN n x < lid:=by
 induction n with
 | zero => exact h
 | succ n ih => exact bit1_lt ih
def feed (c:Nat):List UInt8 → Nat
 | [] => c
 | b :: r => feed (bitN 8 (c ^^^ b.toNat)) r
def more (a:Nat) (l:List UInt8):Nat:=feed (a ^^^ all) l ^^^ all
theorem byte_lt (b:UInt8):b.toNat < lid:=by have:=b.toNat_lt;unfold lid;omega
theorem all_lt:all < lid:=by decide
theorem feed_lt {c:Nat} (h:c < lid) (l:List UInt8):feed c l < lid:=by
 induction l generalizing c with
 | nil => exact h
 | cons b r ih => exact ih (bitN_lt (xor_lt h (byte_lt b)) 8)
theorem more_lt {a:Nat} (h:a < lid) (l:List UInt8):more a l < lid:=xor_lt (feed_lt (xor_lt h all_lt) l) all_lt
theorem feed_append (c:Nat) (l r:List UInt8):feed c (l ++ r) = feed (feed c l) r:=by
 induction l generalizing c with
 | nil => rfl
 | cons b l ih => exact ih _
theorem feed_snoc (c:Nat) (l:List UInt8) (b:UInt8):feed c (l ++ [b]) = bitN 8 (feed c l ^^^ b.toNat):=by
 rw [feed_append];rfl
end Crc
end
section
open Go.RowKit
namespace Crc
theorem xor32 {a b:Nat} (ha:a < lid) (hb:b < lid):bits .xor .u32 (a:Int) (b:Int) = ((a ^^^ b:Nat):Int):=u32_xor_nat a b ha hb
theorem xorAll {a:Nat} (ha:a < lid):bits .xor .u32 (a:Int) 4294967295 = ((a ^^^ all:Nat):Int):=xor32 ha all_lt
theorem ret_u32 {a b:Int} (h:a = b):Ending.returned (.int .u32 a) = .returned (.int .u32 b):=by rw [h]
theorem take_snoc (s:ByteArray) (k:Nat) (h:k < s.size):s.data.toList.take (k + 1) = s.data.toList.take k ++ [s[k]]:=by
 rw [List.take_succ_eq_append_getElem (by simpa using h)];rfl
end Crc
end
section
open Go.RowKit
namespace Crc
theorem neg_low {x:Nat} (_hx:x < lid):bits .and .u32 3988292384 (-(bits .and .u32 (x:Int) 1) % 4294967296) = (if x % 2 = 1 then (poly:Int) else 0):=by
 have e:bits .and .u32 (x:Int) 1 = ((x % 2:Nat):Int):=by
  have:=u32_and_nat x 1 _hx (by decide);rw [Nat.and_one_is_mod] at this;exact this
 rw [e]
 by_cases h:x % 2 = 1
 ·rw [if_pos h,h];decide +kernel
 ·have h0:x % 2 = 0:=by omega
  rw [if_neg h,h0];decide +kernel
theorem bit1_mask {x:Nat} (hx:x < lid):bits .xor .u32 ((x:Int) / 2) (if x % 2 = 1 then (poly:Int) else 0) = ((bit1 x:Nat):Int):=by
 have hl:x / 2 < lid:=by unfold lid at *;omega
 unfold bit1
 by_cases h:x % 2 = 1
 ·rw [if_pos h,if_pos h]
  exact xor32 hl poly_lt
 ·rw [if_neg h,if_neg h]
  have:=xor32 hl (show 0 < lid by decide);rw [Nat.xor_zero] at this;exact this
theorem bytes_of (w:World) (s:ByteArray):∃ (C:Array Value) (cap:Nat),(convert 9 76 (.string s)).run Tryz.prog w = .ok (.slice (some ⟨w.heap.size,0,none⟩) s.size cap) (w.drew.alloc (.cells C 5 (C.size,C.size + 1))) ∧
  ∀ j (h:j < s.size),C[j]? = some (.int .u8 (s[j].toNat:Int)):=by
 refine ⟨_,_,run_bytes_of_string w 9 76 5 s Tryz.underlying9 Tryz.underlying76 Tryz.underlying5,fun j h => ?_⟩
 have h':j < s.data.size:=h;unfold bytesRow;rw [Array.getElem?_append_left (by simpa using h'),Array.getElem?_map,Array.getElem?_eq_getElem h']
 rfl
theorem more_any (a:Nat) (s:ByteArray) (w:World) (ha:a < lid) (hs:s.size ≤ maxLen) :
  Calls Tryz.prog 140 #[.int .u32 a,.string s] w fun e w' => e = .returned (.int .u32 (more a s.data.toList:Nat)) ∧ Below w.heap.size w w':=by
 unfold maxLen at hs;have HX:=hid (xorAll ha);have hca:=xor_lt ha all_lt;have ha':a < 4294967296:=ha;obtain ⟨C,cap,hconv,HC⟩:=bytes_of w s;replace HC:=hid HC;go_enter Tryz.func140,Tryz.ntmps140;go_wp2;clear hconv
 go_loop [5,13] (fun x i => ∃ k:Nat,k ≤ s.size ∧ i = .int .i64 k ∧ x = .int .u32 (feed (a ^^^ all) (s.data.toList.take k):Nat)) (fun _ i => s.size - (intOf i).toNat)
 case atStart => exact ⟨0,Nat.zero_le _,rfl,by rw [HX.out];rfl⟩
 case round =>
  obtain ⟨k,hk,rfl,rfl⟩:=hrel;have hl:=feed_lt hca (s.data.toList.take k)
  by_cases hlt:k < s.size
  ·have HS:=hid (show feed (a ^^^ all) (s.data.toList.take (k + 1)) = bitN 8 (feed (a ^^^ all) (s.data.toList.take k) ^^^ s[k].toNat) by rw [take_snoc s k hlt,feed_snoc])
   generalize feed (a ^^^ all) (s.data.toList.take k) = X at *;have hb:=s[k].toNat_lt
   have hcell:(w.alloc (.cells C 5 (C.size,C.size + 1))).cell? ⟨w.heap.size,k,none⟩ = some (.int .u8 (s[k].toNat:Int)):=by
    rw [World.cell?_alloc_mark,HC.out k hlt]
   generalize s[k].toNat = B at *;have HXB:=hid (xor32 hl (show B < lid by unfold lid;omega));have hXB:=xor_lt hl (show B < lid by unfold lid;omega);have hl':X < 4294967296:=hl;go_wp2
   go_loop [5,21] (fun x i => ∃ j:Nat,j ≤ 8 ∧ i = .int .i64 j ∧ x = .int .u32 (bitN j (X ^^^ B):Nat)) (fun _ i => 8 - (intOf i).toNat)
   case atStart => exact ⟨0,by omega,rfl,by rw [HXB.out];rfl⟩
   case round =>
    obtain ⟨j,hj,rfl,rfl⟩:=hrel;have hY:=bitN_lt hXB j
    by_cases hj8:j < 8
    ·have HJ:=hid (show bitN (j + 1) (X ^^^ B) = bit1 (bitN j (X ^^^ B)) from rfl)
     generalize bitN j (X ^^^ B) = Y at *;have HN:=hid (neg_low hY);have HO:=hid (bit1_mask hY);have hY':Y < 4294967296:=hY;go_wp2
     go_round
     case rel => exact ⟨j + 1,by omega,by go_num,by rw [HN.out,HO.out,HJ.out]⟩
     case measure => simp [intOf];omega
    ·have hj8:j = 8:=by omega
     subst hj8;generalize bitN 8 (X ^^^ B) = Y at *;go_wp2
     go_round
     case rel => exact ⟨k + 1,by omega,by go_num,by rw [HS.out]⟩
     case measure => simp [intOf];omega
  ·have HT:=hid (List.take_of_length_le (show s.data.toList.length ≤ k by simp;omega))
   have HM:=hid (show more a s.data.toList = feed (a ^^^ all) (s.data.toList.take k) ^^^ all by rw [HT.out];rfl);generalize feed (a ^^^ all) (s.data.toList.take k) = X at *;have HY:=hid (xorAll hl);go_wp2;go_ret;exact ⟨ret_u32 (by rw [HM.out,HY.out]),(Below.refl _ _).drew.alloc (Nat.le_refl _) _⟩
theorem sum_any (s:ByteArray) (w:World) (hs:s.size ≤ maxLen) :
  Calls Tryz.prog 105 #[.string s] w fun e w' => e = .returned (.int .u32 (more 0 s.data.toList:Nat)) ∧ Below w.heap.size w w':=by
 go_enter Tryz.func105,Tryz.ntmps105
 go_wp2_with (go_at_call 140;refine (more_any 0 _ _ (by decide) hs).mono ?_;rintro e w' ⟨rfl,hb⟩)
 go_ret;exact ⟨rfl,hb⟩
end Crc
end
section
open Go.RowKit Go.ChangeShapes Go.WideShapes Go.ChangeAt
namespace Ck
open Mem Pk
abbrev Ch:=Int × ByteArray
def I64 (n:Int):Prop:=-9223372036854775808 ≤ n ∧ n ≤ 9223372036854775807
def Ok (c:Ch):Prop:=I64 c.1 ∧ c.2.size ≤ maxLen
def chAt (l:List Ch) (j:Nat):Ch:=l[j]?.getD (0,ByteArray.empty)
def cellsC:List Ch → List Value
 | [] => []
 | c :: l => .int .i64 c.1 :: .string c.2 :: cellsC l
theorem cellsC_length (l:List Ch):(cellsC l).length = l.length * 2:=by
 induction l with
 | nil => rfl
 | cons c l ih => rw [cellsC,List.length_cons,List.length_cons,ih,List.length_cons];omega
theorem cellsC_append (l m:List Ch):cellsC (l ++ m) = cellsC l ++ cellsC m:=by
 induction l with
 | nil => rfl
 | cons c l ih => rw [List.cons_append,cellsC,ih,cellsC];rfl
theorem cellsC_at (l:List Ch):∀ j,j < l.length → (cellsC l)[j * 2]? = some (.int .i64 (chAt l j).1) ∧ (cellsC l)[j * 2 + 1]? = some (.string (chAt l j).2):=by
 induction l with
 | nil => intro j h;simp at h
 | cons c l ih =>
  intro j h
  cases j with
  | zero => exact ⟨rfl,rfl⟩
  | succ j =>
   have:=ih j (by simpa using h)
   have e1:(cellsC (c :: l))[(j + 1) * 2]? = (cellsC l)[j * 2]?:=by
    rw [cellsC,show (j + 1) * 2 = j * 2 + 1 + 1 by omega]
    rfl
   have e2:(cellsC (c :: l))[(j + 1) * 2 + 1]? = (cellsC l)[j * 2 + 1]?:=by
    rw [cellsC,show (j + 1) * 2 + 1 = j * 2 + 1 + 1 + 1 by omega]
    rfl
   have e3:chAt (c :: l) (j + 1) = chAt l j:=rfl;rw [e1,e2,e3];exact this
theorem ones_ch (L:List Ch):∀ u ∈ cellsC L,u.oneCell' = true:=by
 induction L with
 | nil => intro u hu;simp [cellsC] at hu
 | cons c l ih =>
  intro u hu;rw [cellsC,List.mem_cons,List.mem_cons] at hu
  rcases hu with rfl | rfl | hu
  ·rfl
  ·rfl
  ·exact ih u hu
theorem chAt_mem {l:List Ch} {j:Nat} (h:j < l.length):chAt l j ∈ l:=by
 unfold chAt;rw [List.getElem?_eq_getElem h];exact List.getElem_mem h
theorem take_next (l:List Ch) (k:Nat) (h:k < l.length):l.take (k + 1) = l.take k ++ [chAt l k]:=by
 rw [List.take_succ_eq_append_getElem h];unfold chAt;rw [List.getElem?_eq_getElem h]
 rfl
theorem drop_here (l:List Ch) (k:Nat) (h:k < l.length):l.drop k = chAt l k :: l.drop (k + 1):=by
 rw [List.drop_eq_getElem_cons h];unfold chAt;rw [List.getElem?_eq_getElem h]
 rfl
def OwnC (w:World) (base:Nat) (v:Value) (l:List Ch):Prop:=w.ownsRow base 57 2 v l.length (cellsC l)
theorem ownC_nil (w:World) (base:Nat):OwnC w base (.slice none 0 0) []:=World.ownsRow_nil w base _ 2
theorem ownC_snoc {w:World} {base:Nat} {v:Value} {acc:List Ch} {c:Ch} (h:w.ownsRow base 57 2 v (acc.length + 1) (cellsC acc ++ [.int .i64 c.1,.string c.2])):OwnC w base v (acc ++ [c]):=by
 unfold OwnC;rw [cellsC_append,List.length_append,List.length_singleton];exact h
theorem one_ch (k:Int) (b:ByteArray):∀ x ∈ [Value.int .i64 k,Value.string b],x.oneCell' = true:=ones_ch [(k,b)]
theorem infoC:(Tryz.prog.info? 57).map (fun i => (i.zero,i.size,i.bytes)) = some (some (.agg #[.int .i64 0,.string ByteArray.empty]),2,24):=by kernel_rfl
structure Chs (W:World) (v:Value) (l:List Ch):Prop where
 val:∃ (a:Option Addr) (cap:Nat),v = .slice a l.length cap ∧ l.length ≤ cap ∧ (a = none → cap = 0) ∧ (0 < l.length → ∃ b off,a = some ⟨b,off,none⟩ ∧ b < W.heap.size ∧ ∀ j,j < l.length → W.cell? ⟨b,off + j * 2,none⟩ = some (.int .i64 (chAt l j).1) ∧ W.cell? ⟨b,off + j * 2 + 1,none⟩ = some (.string (chAt l j).2))
 bound:∀ c ∈ l,Ok c
theorem chs_nil (w:World):Chs w (.slice none 0 0) []:=⟨⟨none,0,rfl,Nat.le_refl _,fun _ => rfl,fun h => by simp at h⟩,fun n hn => by simp at hn⟩
theorem chs_below {w w':World} {v:Value} {l:List Ch} (h:Chs w v l) (hb:Below w.heap.size w w'):Chs w' v l:=by
 obtain ⟨⟨a,cap,rfl,hr,hn,hc⟩,h2⟩:=h;refine ⟨⟨a,cap,rfl,hr,hn,fun h0 => ?_⟩,h2⟩
 obtain ⟨b,off,e1,e2,e3⟩:=hc h0;exact ⟨b,off,e1,Nat.lt_of_lt_of_le e2 hb.size,fun j hj => ⟨(hb.cell (p:=⟨b,off + j * 2,none⟩) e2).trans (e3 j hj).1,(hb.cell (p:=⟨b,off + j * 2 + 1,none⟩) e2).trans (e3 j hj).2⟩⟩
theorem chs_at {W:World} {b o n c:Nat} {L:List Ch} (h:Chs W (.slice (some ⟨b,o,none⟩) n c) L) {j:Nat} (hj:j < L.length):b < W.heap.size ∧ W.cell? ⟨b,o + j * 2,none⟩ = some (.int .i64 (chAt L j).1) ∧ W.cell? ⟨b,o + j * 2 + 1,none⟩ = some (.string (chAt L j).2):=by
 obtain ⟨⟨a',c',e1,-,-,h1⟩,-⟩:=h
 cases e1
 obtain ⟨b',o',e2,e3,h2⟩:=h1 (by omega)
 cases e2
 exact ⟨e3,h2 j hj⟩
theorem OwnC.chs {w:World} {base:Nat} {v:Value} {l:List Ch} (h:OwnC w base v l) (hb:∀ c ∈ l,Ok c):Chs w v l:=by
 obtain ⟨h1,h2⟩:=h;refine ⟨?_,hb⟩
 rcases h2 with ⟨rfl,h0⟩ | ⟨g,cap,cur,rfl,hg,hh,hn,hm,hs,ht⟩
 ·exact ⟨none,0,by rw [h0],by omega,fun _ => rfl,fun h => by omega⟩
 ·refine ⟨_,cap,rfl,hn,(fun e => by cases e),fun _ => ⟨g,0,rfl,lt_of_block hh,fun j hj => ?_⟩⟩
  obtain ⟨e1,e2⟩:=cellsC_at l j hj;rw [← ht,List.getElem?_take_of_lt (by omega)] at e1 e2;rw [cell_at hh,cell_at hh,← e1,← e2];simp
def b8 (k:Int):UInt8:=UInt8.ofNat (k % 256).toNat
def sealL (l:List UInt8):List UInt8:=l ++ (fixL (Crc.more 0 l)).take 4
def oneL (c:Ch):List UInt8:=sealL ([b8 c.1] ++ putL c.2.size ++ c.2.data.toList)
def joinGo:Int → List Ch → Int
 | _,[] => 0
 | last,c :: l => if c.1 ≤ last ∨ 255 < c.1 then 12 else if 1048576 < c.2.size then 10 else joinGo c.1 l
def joinE (v:Int) (l:List Ch):Int:=if v < 0 ∨ 255 < v then 1 else joinGo 0 l
def joinL (v:Int) (l:List Ch):List UInt8:=[66,78,83,73] ++ [b8 v] ++ l.flatMap oneL
def joinS (v:Int) (l:List Ch):ByteArray:=if joinE v l = 0 then str (joinL v l) else ByteArray.empty
def verE (s:ByteArray):Int:=if s.data.toList.take 4 = [66,78,83,73] then (if s.size < 5 then 2 else 0) else 7
def verN (s:ByteArray):Int:=if verE s = 0 then ((s.data.toList[4]?.getD 0).toNat:Int) else 0
end Ck
end
section
open Go.RowKit Go.Shelf
namespace Ck
open Mem Pk Bd
theorem wbyte_any (b B:Nat) (p v:Value) (hp:p = .pointer none ∨ p = .pointer (some ⟨b,0,none⟩)) (l:List UInt8) (c:UInt8) (w:World) (hb:w.heap[b]? = some (bd p v)) (hO:Own8 w B v l) (hbB:b < B) (hBw:B ≤ w.heap.size) (hl:l.length ≤ 100000) :
  Calls Tryz.prog 82 #[.pointer (some ⟨b,0,none⟩),.int .u8 (c.toNat:Int)] w fun e w' => e = .returned .nilIface ∧ (∃ v',w'.heap[b]? = some (bd (.pointer (some ⟨b,0,none⟩)) v') ∧ Own8 w' B v' (l ++ [c])) ∧ Kept (fun k => k = b ∨ B ≤ k) w w':=by
 obtain ⟨i0,hi,hz0,hz1,hz2⟩:=info_parts info8;have HC:=hid (check_any b p v hp w hb);clear hb hp;go_enter Tryz.func82,Tryz.ntmps82;go_wp2_with fail;refine HC.out.mono ?_
 rintro e w1 ⟨rfl,hb1,k1,-⟩;have hO1:w1.ownsRow B 5 1 v l.length (cells8 l):=own8_kept k1 hO (fun k hk h => by subst h;omega);have c0:w1.cell? ⟨b,0,none⟩ = some (.pointer (some ⟨b,0,none⟩)):=(cell_at hb1 0).trans rfl;have c1:w1.cell? ⟨b,1,none⟩ = some v:=(cell_at hb1 1).trans rfl;have hs1:=k1.size
 go_wp2_with (at_builtin;refine wpList_append_own _ rfl _ _ 76 rfl B 5 i0 (.int .u8 0) 1 1 Tryz.underlying76 hi hz0 hz1 hz2 rfl (by decide) _ _ _ rfl (hO1.alloc _) ⟨w1.heap.size,0,none⟩ 1 1 [.int .u8 (c.toNat:Int)] rfl rfl (cell_one_new _ _ _) (fun x hx => by simp at hx;subst hx;rfl) (by unfold maxLen;omega) (by omega) (by simp;omega) ?_;intro v2 w2 hown hgrow _;obtain ⟨bx,cx,rfl⟩:=own_slice hown;have hb2:w2.heap[b]? = some (bd (.pointer (some ⟨b,0,none⟩)) v):=(hgrow.block b (by simp;omega) (fun e => by have:=(hO1.lt _ e.symm).1;omega)).trans (alloc_at _ hb1);have d0:w2.cell? ⟨b,0,none⟩ = some (.pointer (some ⟨b,0,none⟩)):=(cell_at hb2 0).trans rfl;have d1:w2.cell? ⟨b,1,none⟩ = some v:=(cell_at hb2 1).trans rfl;have f1:w2.frozen? ⟨b,1,none⟩ = false:=free_at hb2 1)
 go_ret;have hKa:Kept (fun k => k = b ∨ B ≤ k) w (w1.alloc (.cells #[.int .u8 (c.toNat:Int)] 5)):=(k1.mono (fun i hi h => .inl h)).alloc _;refine ⟨rfl,⟨_,(set_at hb2 1 _).trans rfl,?_⟩,(hKa.grown hgrow (fun k er _ => .inr (hO1.lt k er).1)).setCell (p:=⟨b,1,none⟩) (fun _ => .inl rfl) _⟩
 unfold Own8;rw [cells8_append,List.length_append,List.length_singleton];exact own_setCell hown hbB _
theorem str_append (l m:List UInt8):str l ++ str m = str (l ++ m):=ext_list (by
 rw [str_data,ByteArray.data_append,Array.toList_append,str_data,str_data])
theorem str_append' (s:ByteArray) (m:List UInt8):s ++ str m = str (s.data.toList ++ m):=by
 have:=str_append s.data.toList m;rw [str_of] at this;exact this
theorem str_cat (l:List UInt8) (s:ByteArray):str l ++ s = str (l ++ s.data.toList):=by
 have:=str_append l s.data.toList;rw [str_of] at this;exact this
theorem fix_len (n:Nat):(fixL n).length = 8:=fixL_length n
theorem str_take (l:List UInt8) (k:Nat):(str l).extract 0 k = str (l.take k):=ext_list (by rw [head_list,str_data,str_data])
theorem more_lt (l:List UInt8):Crc.more 0 l < 4294967296:=Crc.more_lt (by decide) l
theorem more_64 (l:List UInt8):Crc.more 0 l < W64:=Nat.lt_trans (more_lt l) (by decide)
theorem sealed_any (s:ByteArray) (w:World) (hs:s.size ≤ 4000000) :
  Calls Tryz.prog 60 #[.string s] w fun e w' => e = .returned (.string (str (sealL s.data.toList))) ∧ Below w.heap.size w w':=by
 have HS:=hid (Crc.sum_any s w (by unfold maxLen;omega));have hm:=more_lt s.data.toList;have HF:=hid (fun w => fixed_any (Crc.more 0 s.data.toList) w (more_64 _))
 have hz:(str (fixL (Crc.more 0 s.data.toList))).size = 8:=by rw [str_size,fix_len]
 have HT:=hid (str_take (fixL (Crc.more 0 s.data.toList)) 4)
 have hz4:(str ((fixL (Crc.more 0 s.data.toList)).take 4)).size = 4:=by rw [str_size,List.length_take,fix_len];rfl
 have HA:=hid (str_append' s ((fixL (Crc.more 0 s.data.toList)).take 4));have HL:Hid (sealL s.data.toList = s.data.toList ++ (fixL (Crc.more 0 s.data.toList)).take 4):=hid rfl;generalize Crc.more 0 s.data.toList = M at *;go_enter Tryz.func60,Tryz.ntmps60;go_wp2_with fail;refine HS.out.mono ?_
 rintro e w1 ⟨rfl,hb⟩;go_wp2_with fail;refine (HF.out _).mono ?_
 rintro e w2 ⟨rfl,hb2⟩;replace hb:=hb.trans (hb2.mono hb.size);have hT:=HT.out;go_wp2_with fail;go_ret;exact ⟨by rw [HA.out,HL.out];rfl,hb⟩
def vCh (c:Ch):Value:=.agg #[.int .i64 c.1,.string c.2]
theorem own8_one {w:World} {g base:Nat} {b:UInt8} (hg:base ≤ g) (h:w.heap[g]? = some (.cells #[.int .u8 (b.toNat:Int)] 5)):Own8 w base (.slice (some ⟨g,0,none⟩) 1 1) [b]:=by
 refine ⟨rfl,.inr ⟨g,1,_,rfl,hg,h,Nat.le_refl _,by decide,rfl,?_⟩⟩
 rfl
theorem conv_one {w:World} {g:Nat} {b:UInt8} (h:w.heap[g]? = some (.cells #[.int .u8 (b.toNat:Int)] 5)):(convert 76 9 (.slice (some ⟨g,0,none⟩) 1 1)).run Tryz.prog w = .ok (.string (str [b])) w:=own8_string (own8_one (Nat.zero_le _) h)
theorem b8_val (k:Int):k % 256 = ((b8 k).toNat:Int):=by
 unfold b8;rw [UInt8.toNat_ofNat',Nat.mod_eq_of_lt (by omega)];omega
def OneS (b:Nat) (k:Int) (s:ByteArray) (w1 W:World):Prop:=W.cell? ⟨b,0,none⟩ = some (.int .i64 k) ∧ W.cell? ⟨b,1,none⟩ = some (.string s) ∧ Below (b + 1) w1 W
theorem one_any (c:Ch) (w:World) (hz:c.2.size ≤ 2000000) :
  Calls Tryz.prog 30 #[vCh c] w fun e w' => e = .returned (.string (str (oneL c))) ∧ Below w.heap.size w w':=by
 obtain ⟨k,s⟩:=c;simp only at hz;have hb8:=b8_val k
 have hR:str (sealL (str [b8 k] ++ str (putL s.size) ++ s).data.toList) = str (oneL (k,s)):=by rw [str_append,str_cat,str_data];rfl
 have hp1:=putL_length s.size
 have hz2:(str (putL s.size)).size ≤ 10:=by rw [str_size];exact hp1
 have hz1:(str [b8 k]).size = 1:=rfl;have HP:=hid (fun W => put_any s.size W (Nat.lt_of_le_of_lt hz (by decide)));have HS:=hid (fun W => sealed_any (str [b8 k] ++ str (putL s.size) ++ s) W (by rw [ByteArray.size_append,ByteArray.size_append];omega));rw [hR] at HS;clear hR;have hbv:IntKind.u8.wrap k = ((b8 k).toNat:Int):=hb8;unfold vCh;generalize str (oneL (k,s)) = R at *;generalize b8 k = B at *;go_enter Tryz.func30,Tryz.ntmps30;go_wp2_with fail;obtain ⟨w1,hw1⟩:∃ w1,w.alloc (.cells #[.int .i64 k,.string s] 57) = w1:=⟨_,rfl⟩
 have hsz:w1.heap.size = w.heap.size + 1:=by rw [← hw1];simp
 have hk1:w1.heap[w.heap.size]? = some (.cells #[.int .i64 k,.string s] 57):=by rw [← hw1];exact alloc_new w _
 have hb1:Below w.heap.size w w1:=by rw [← hw1];exact (Below.refl _ _).alloc (Nat.le_refl _) _
 rw [hw1];have HSS:Hid (∀ W,Below (w.heap.size + 1) w1 W → OneS w.heap.size k s w1 W):=hid (fun W h => ⟨(h.cell (p:=⟨w.heap.size,0,none⟩) (by simp)).trans (cell_at hk1 0),(h.cell (p:=⟨w.heap.size,1,none⟩) (by simp)).trans (cell_at hk1 1),h⟩);clear hw1
 have HP2:Hid (∀ W,OneS w.heap.size k s w1 W → Calls Tryz.prog 61 #[.int .u64 (s.size:Nat)] W fun e W' => e = .returned (.string (str (putL s.size))) ∧ OneS w.heap.size k s w1 W' ∧ Below W.heap.size W W'):=hid (fun W h => (HP.out W).mono fun e W' h2 => ⟨h2.1,HSS.out _ (h.2.2.trans (h2.2.mono (by have:=h.2.2.size;omega))),h2.2⟩)
 have HCV:∀ W:World,(convert 76 9 (.slice (some ⟨W.heap.size,0,none⟩) 1 1)).run Tryz.prog (W.alloc (.cells #[.int .u8 (B.toNat:Int)] 5)) = .ok (.string (str [B])) (W.alloc (.cells #[.int .u8 (B.toNat:Int)] 5)):=fun W => conv_one (alloc_new W _)
 have hn1:(w1.alloc (.cells #[.int .u8 (B.toNat:Int)] 5)).drew.heap[w.heap.size + 1]? = some (.cells #[.int .u8 (B.toNat:Int)] 5):=by rw [← hsz];exact alloc_new w1 _
 have hcv:=conv_one hn1;have hws:IntKind.u64.wrap (s.size:Int) = (s.size:Int):=IntWalk.u64_in _ (by omega)
 have y1:¬ 9223372036854775807 < 1 + (str (putL s.size)).size:=by omega
 have y2:¬ 9223372036854775807 < 1 + (str (putL s.size)).size + s.size:=by omega
 have HS2:Hid (∀ W,OneS w.heap.size k s w1 W → Calls Tryz.prog 60 #[.string (str [B] ++ str (putL s.size) ++ s)] W fun e W' => e = .returned (.string R) ∧ OneS w.heap.size k s w1 W'):=hid (fun W h => (HS.out W).mono fun e W' h2 => ⟨h2.1,HSS.out _ (h.2.2.trans (h2.2.mono (by have:=h.2.2.size;omega)))⟩);have hS0:=HSS.out _ (Below.refl _ w1).drew;have hHB:=hid hb1;clear hb1 hk1 hp1;unfold OneS at *
 refine wp_region_held_drew (S:=fun W => W.cell? ⟨w.heap.size,0,none⟩ = some (.int .i64 k) ∧ W.cell? ⟨w.heap.size,1,none⟩ = some (.string s) ∧ Below (w.heap.size + 1) w1 W) (by kernel_rfl) ?_ (fun hHeld => ?_)
 ·exact hS0
 refine wpAnyH_take (i:=0) (oi:=_) (v:=?_) rfl (by kernel_rfl) (by kernel_rfl) (by kernel_rfl) (fun _ _ _ h => h) (Or.inl ⟨by rfl,?_⟩) (by assumption) ?_
 rotate_left
 ·intro w hSw;(try dsimp only at hSw);go_simp;(try with_reducible rfl)
 (try simp only [Act.put]);(try simp only [List.setIfInBounds_toArray]);(try simp only [List.set_cons_succ]);(try simp only [List.set_cons_zero])
 refine wpAnyH_take (i:=1) (oi:=_) (v:=?_) rfl (by kernel_rfl) (by kernel_rfl) (by kernel_rfl) (fun _ _ _ h => h) (Or.inl ⟨by rfl,?_⟩) (by assumption) ?_
 rotate_left
 ·intro w hSw;(try dsimp only at hSw);go_simp;(try with_reducible rfl)
 (try simp only [Act.put]);(try simp only [List.setIfInBounds_toArray]);(try simp only [List.set_cons_succ]);(try simp only [List.set_cons_zero])
 refine wpAnyH_take (i:=2) (oi:=_) (v:=?_) rfl (by kernel_rfl) (by kernel_rfl) (by kernel_rfl) (fun _ _ _ h => h) (Or.inl ⟨by rfl,?_⟩) (by assumption) ?_
 rotate_left
 ·intro w hSw;(try dsimp only at hSw);go_simp;(try with_reducible rfl)
 (try simp only [Act.put]);(try simp only [List.setIfInBounds_toArray]);(try simp only [List.set_cons_succ]);(try simp only [List.set_cons_zero])
 refine wpAnyH_take (i:=5) (oi:=_) (v:=?_) rfl (by kernel_rfl) (by kernel_rfl) (by kernel_rfl) (fun _ _ _ h => h) (Or.inl ⟨by rfl,?_⟩) (by assumption) ?_
 rotate_left
 ·intro w hSw;(try dsimp only at hSw);go_simp;(try with_reducible rfl)
 (try simp only [Act.put]);(try simp only [List.setIfInBounds_toArray]);(try simp only [List.set_cons_succ]);(try simp only [List.set_cons_zero])
 refine wpAnyH_take (i:=6) (oi:=_) (v:=?_) rfl (by kernel_rfl) (by kernel_rfl) (by kernel_rfl) (fun _ _ _ h => h) (Or.inl ⟨by rfl,?_⟩) (by assumption) ?_
 rotate_left
 ·intro w hSw;(try dsimp only at hSw);go_simp;(try with_reducible rfl)
 (try simp only [Act.put]);(try simp only [List.setIfInBounds_toArray]);(try simp only [List.set_cons_succ]);(try simp only [List.set_cons_zero])
 refine wpAnyH_take (i:=7) (oi:=_) (v:=?_) rfl (by kernel_rfl) (by kernel_rfl) (by kernel_rfl) (fun _ _ _ h => h) (Or.inl ⟨by rfl,?_⟩) (by assumption) ?_
 rotate_left
 ·intro w hSw;(try dsimp only at hSw);go_simp;(try with_reducible rfl)
 (try simp only [Act.put]);(try simp only [List.setIfInBounds_toArray]);(try simp only [List.set_cons_succ]);(try simp only [List.set_cons_zero])
 refine wpAnyH_take (i:=8) (oi:=_) (v:=?_) rfl (by kernel_rfl) (by kernel_rfl) (by kernel_rfl) (fun _ _ _ h => h) (Or.inl ⟨by rfl,?_⟩) (by assumption) ?_
 rotate_left
 ·intro w hSw;(try dsimp only at hSw);go_simp;(try with_reducible rfl)
 (try simp only [Act.put]);(try simp only [List.setIfInBounds_toArray]);(try simp only [List.set_cons_succ]);(try simp only [List.set_cons_zero])
 refine wpAnyH_take (i:=11) (oi:=_) (v:=?_) rfl (by kernel_rfl) (by kernel_rfl) (by kernel_rfl) (fun _ _ _ h => h) (Or.inl ⟨by rfl,?_⟩) (by assumption) ?_
 rotate_left
 ·intro w hSw;(try dsimp only at hSw);go_simp;(try with_reducible rfl)
 (try simp only [Act.put]);(try simp only [List.setIfInBounds_toArray]);(try simp only [List.set_cons_succ]);(try simp only [List.set_cons_zero])
 refine wpAnyH_take (i:=12) (oi:=_) (v:=?_) rfl (by kernel_rfl) (by kernel_rfl) (by kernel_rfl) (fun _ _ _ h => h) (Or.inl ⟨by rfl,?_⟩) (by assumption) ?_
 rotate_left
 ·intro w hSw;(try dsimp only at hSw);go_simp;(try with_reducible rfl)
 (try simp only [Act.put]);(try simp only [List.setIfInBounds_toArray]);(try simp only [List.set_cons_succ]);(try simp only [List.set_cons_zero])
 refine wpAnyH_ready (rs:=[3,9]) (by kernel_rfl) (by simp) ?_
 refine AllReadyH.cons (o:=_) rfl (fun K hK => ?_) ?_
 ·go_simp
  refine hK.out _ _ ?_ (fun hHeld => ?_)
  ·first | exact HSS.out _ ((Below.refl _ w1).alloc (by omega) _).drew | (refine HSS.out _ (Below.alloc ?_ ?_ _);exact (by assumption:_ ∧ _ ∧ Below (w.heap.size + 1) w1 _).2.2;have:=(by assumption:_ ∧ _ ∧ Below (w.heap.size + 1) w1 _).2.2.size;omega)
  clear hK K
  (try simp only [Act.put]);(try simp only [List.setIfInBounds_toArray]);(try simp only [List.set_cons_succ]);(try simp only [List.set_cons_zero])
  refine wpAnyH_ready (rs:=[4,9]) (by kernel_rfl) (by simp) ?_
  refine AllReadyH.cons (o:=_) rfl (fun K hK => ?_) ?_
  ·go_simp
   refine hK.out _ _ ?_ (fun hHeld => ?_)
   ·assumption
   clear hK K
   (try simp only [Act.put]);(try simp only [List.setIfInBounds_toArray]);(try simp only [List.set_cons_succ]);(try simp only [List.set_cons_zero])
   refine wpAnyH_ready (rs:=[9]) (by kernel_rfl) (by simp) ?_
   refine AllReadyH.cons (o:=_) rfl (fun K hK => ?_) ?_
   ·go_simp;go_at_call 61;refine (HP2.out _ (by assumption)).mono ?_;rintro e' W' ⟨rfl,hS',hk'⟩;(try have hcv2:=conv_one ((hk'.block (w.heap.size + 1) (by simp;omega)).trans hn1));go_wp2_with fail
    refine hK.out _ _ ?_ (fun hHeld => ?_)
    ·assumption
    clear hK K
    (try simp only [Act.put]);(try simp only [List.setIfInBounds_toArray]);(try simp only [List.set_cons_succ]);(try simp only [List.set_cons_zero])
    refine wpAnyH_take (i:=10) (oi:=_) (v:=?_) rfl (by kernel_rfl) (by kernel_rfl) (by kernel_rfl) (fun _ _ _ h => h) (Or.inl ⟨by rfl,?_⟩) (by assumption) ?_
    rotate_left
    ·intro w hSw;(try dsimp only at hSw);go_simp;(try with_reducible rfl)
    (try simp only [Act.put]);(try simp only [List.setIfInBounds_toArray]);(try simp only [List.set_cons_succ]);(try simp only [List.set_cons_zero])
    refine wpAnyH_take (i:=13) (oi:=_) (v:=?_) rfl (by kernel_rfl) (by kernel_rfl) (by kernel_rfl) (fun _ _ _ h => h) (Or.inl ⟨by rfl,?_⟩) (by assumption) ?_
    rotate_left
    ·intro w hSw;(try dsimp only at hSw);go_simp;(try with_reducible rfl)
    (try simp only [Act.put]);(try simp only [List.setIfInBounds_toArray]);(try simp only [List.set_cons_succ]);(try simp only [List.set_cons_zero])
    refine wpAnyH_ready (rs:=[14]) (by kernel_rfl) (by simp) ?_
    refine AllReadyH.cons (o:=_) rfl (fun K hK => ?_) ?_
    ·go_simp;go_at_call 60;refine (HS2.out _ (by assumption)).mono ?_;rintro e' W' ⟨rfl,hS'⟩;go_wp2_with fail
     refine hK.out _ _ ?_ (fun hHeld => ?_)
     ·assumption
     clear hK K
     (try simp only [Act.put]);(try simp only [List.setIfInBounds_toArray]);(try simp only [List.set_cons_succ]);(try simp only [List.set_cons_zero])
     refine wpAnyH_ready (rs:=[15]) (by kernel_rfl) (by simp) ?_
     refine AllReadyH.cons (o:=_) rfl (fun K hK => ?_) ?_
     ·go_simp
      refine hK.out _ _ ?_ (fun hHeld => ?_)
      ·assumption
      clear hK K
      (try simp only [Act.put]);(try simp only [List.setIfInBounds_toArray]);(try simp only [List.set_cons_succ]);(try simp only [List.set_cons_zero])
      refine wpAnyH_done (by kernel_rfl) ?_ _
      go_wp2_with fail;go_ret;exact ⟨rfl,hHB.out.trans (hS'.2.2.mono (by omega))⟩
     exact AllReadyH.nil
    exact AllReadyH.nil
   exact AllReadyH.nil
  refine AllReadyH.cons (o:=_) rfl (fun K hK => ?_) ?_
  ·go_simp;go_at_call 61;refine (HP2.out _ (by assumption)).mono ?_;rintro e' W' ⟨rfl,hS',hk'⟩;(try have hcv2:=conv_one ((hk'.block (w.heap.size + 1) (by simp;omega)).trans hn1));go_wp2_with fail
   refine hK.out _ _ ?_ (fun hHeld => ?_)
   ·assumption
   clear hK K
   (try simp only [Act.put]);(try simp only [List.setIfInBounds_toArray]);(try simp only [List.set_cons_succ]);(try simp only [List.set_cons_zero])
   refine wpAnyH_ready (rs:=[4]) (by kernel_rfl) (by simp) ?_
   refine AllReadyH.cons (o:=_) rfl (fun K hK => ?_) ?_
   ·go_simp
    refine hK.out _ _ ?_ (fun hHeld => ?_)
    ·assumption
    clear hK K
    (try simp only [Act.put]);(try simp only [List.setIfInBounds_toArray]);(try simp only [List.set_cons_succ]);(try simp only [List.set_cons_zero])
    refine wpAnyH_take (i:=10) (oi:=_) (v:=?_) rfl (by kernel_rfl) (by kernel_rfl) (by kernel_rfl) (fun _ _ _ h => h) (Or.inl ⟨by rfl,?_⟩) (by assumption) ?_
    rotate_left
    ·intro w hSw;(try dsimp only at hSw);go_simp;(try with_reducible rfl)
    (try simp only [Act.put]);(try simp only [List.setIfInBounds_toArray]);(try simp only [List.set_cons_succ]);(try simp only [List.set_cons_zero])
    refine wpAnyH_take (i:=13) (oi:=_) (v:=?_) rfl (by kernel_rfl) (by kernel_rfl) (by kernel_rfl) (fun _ _ _ h => h) (Or.inl ⟨by rfl,?_⟩) (by assumption) ?_
    rotate_left
    ·intro w hSw;(try dsimp only at hSw);go_simp;(try with_reducible rfl)
    (try simp only [Act.put]);(try simp only [List.setIfInBounds_toArray]);(try simp only [List.set_cons_succ]);(try simp only [List.set_cons_zero])
    refine wpAnyH_ready (rs:=[14]) (by kernel_rfl) (by simp) ?_
    refine AllReadyH.cons (o:=_) rfl (fun K hK => ?_) ?_
    ·go_simp;go_at_call 60;refine (HS2.out _ (by assumption)).mono ?_;rintro e' W' ⟨rfl,hS'⟩;go_wp2_with fail
     refine hK.out _ _ ?_ (fun hHeld => ?_)
     ·assumption
     clear hK K
     (try simp only [Act.put]);(try simp only [List.setIfInBounds_toArray]);(try simp only [List.set_cons_succ]);(try simp only [List.set_cons_zero])
     refine wpAnyH_ready (rs:=[15]) (by kernel_rfl) (by simp) ?_
     refine AllReadyH.cons (o:=_) rfl (fun K hK => ?_) ?_
     ·go_simp
      refine hK.out _ _ ?_ (fun hHeld => ?_)
      ·assumption
      clear hK K
      (try simp only [Act.put]);(try simp only [List.setIfInBounds_toArray]);(try simp only [List.set_cons_succ]);(try simp only [List.set_cons_zero])
      refine wpAnyH_done (by kernel_rfl) ?_ _
      go_wp2_with fail;go_ret;exact ⟨rfl,hHB.out.trans (hS'.2.2.mono (by omega))⟩
     exact AllReadyH.nil
    exact AllReadyH.nil
   exact AllReadyH.nil
  exact AllReadyH.nil
 refine AllReadyH.cons (o:=_) rfl (fun K hK => ?_) ?_
 ·go_simp;go_at_call 61;refine (HP2.out _ (by assumption)).mono ?_;rintro e' W' ⟨rfl,hS',hk'⟩;(try have hcv2:=conv_one ((hk'.block (w.heap.size + 1) (by simp;omega)).trans hn1));go_wp2_with fail
  refine hK.out _ _ ?_ (fun hHeld => ?_)
  ·assumption
  clear hK K
  (try simp only [Act.put]);(try simp only [List.setIfInBounds_toArray]);(try simp only [List.set_cons_succ]);(try simp only [List.set_cons_zero])
  refine wpAnyH_ready (rs:=[3]) (by kernel_rfl) (by simp) ?_
  refine AllReadyH.cons (o:=_) rfl (fun K hK => ?_) ?_
  ·go_simp
   refine hK.out _ _ ?_ (fun hHeld => ?_)
   ·first | exact HSS.out _ ((Below.refl _ w1).alloc (by omega) _).drew | (refine HSS.out _ (Below.alloc ?_ ?_ _);exact (by assumption:_ ∧ _ ∧ Below (w.heap.size + 1) w1 _).2.2;have:=(by assumption:_ ∧ _ ∧ Below (w.heap.size + 1) w1 _).2.2.size;omega)
   clear hK K
   (try simp only [Act.put]);(try simp only [List.setIfInBounds_toArray]);(try simp only [List.set_cons_succ]);(try simp only [List.set_cons_zero])
   refine wpAnyH_ready (rs:=[4]) (by kernel_rfl) (by simp) ?_
   refine AllReadyH.cons (o:=_) rfl (fun K hK => ?_) ?_
   ·go_simp
    refine hK.out _ _ ?_ (fun hHeld => ?_)
    ·assumption
    clear hK K
    (try simp only [Act.put]);(try simp only [List.setIfInBounds_toArray]);(try simp only [List.set_cons_succ]);(try simp only [List.set_cons_zero])
    refine wpAnyH_take (i:=10) (oi:=_) (v:=?_) rfl (by kernel_rfl) (by kernel_rfl) (by kernel_rfl) (fun _ _ _ h => h) (Or.inl ⟨by rfl,?_⟩) (by assumption) ?_
    rotate_left
    ·intro w hSw;(try dsimp only at hSw);go_simp;(try with_reducible rfl)
    (try simp only [Act.put]);(try simp only [List.setIfInBounds_toArray]);(try simp only [List.set_cons_succ]);(try simp only [List.set_cons_zero])
    refine wpAnyH_take (i:=13) (oi:=_) (v:=?_) rfl (by kernel_rfl) (by kernel_rfl) (by kernel_rfl) (fun _ _ _ h => h) (Or.inl ⟨by rfl,?_⟩) (by assumption) ?_
    rotate_left
    ·intro w hSw;(try dsimp only at hSw);go_simp;(try with_reducible rfl)
    (try simp only [Act.put]);(try simp only [List.setIfInBounds_toArray]);(try simp only [List.set_cons_succ]);(try simp only [List.set_cons_zero])
    refine wpAnyH_ready (rs:=[14]) (by kernel_rfl) (by simp) ?_
    refine AllReadyH.cons (o:=_) rfl (fun K hK => ?_) ?_
    ·go_simp;go_at_call 60;refine (HS2.out _ (by assumption)).mono ?_;rintro e' W' ⟨rfl,hS'⟩;go_wp2_with fail
     refine hK.out _ _ ?_ (fun hHeld => ?_)
     ·assumption
     clear hK K
     (try simp only [Act.put]);(try simp only [List.setIfInBounds_toArray]);(try simp only [List.set_cons_succ]);(try simp only [List.set_cons_zero])
     refine wpAnyH_ready (rs:=[15]) (by kernel_rfl) (by simp) ?_
     refine AllReadyH.cons (o:=_) rfl (fun K hK => ?_) ?_
     ·go_simp
      refine hK.out _ _ ?_ (fun hHeld => ?_)
      ·assumption
      clear hK K
      (try simp only [Act.put]);(try simp only [List.setIfInBounds_toArray]);(try simp only [List.set_cons_succ]);(try simp only [List.set_cons_zero])
      refine wpAnyH_done (by kernel_rfl) ?_ _
      go_wp2_with fail;go_ret;exact ⟨rfl,hHB.out.trans (hS'.2.2.mono (by omega))⟩
     exact AllReadyH.nil
    exact AllReadyH.nil
   exact AllReadyH.nil
  exact AllReadyH.nil
 exact AllReadyH.nil
end Ck
end
section
open Go.RowKit Go.Shelf
namespace Ck
open Mem Pk Bd
theorem some_chs {W:World} {a:Option Addr} {n c:Nat} {L:List Ch} (h:Chs W (.slice a n c) L) (hn:0 < L.length):∃ b o,a = some ⟨b,o,none⟩:=by
 obtain ⟨⟨a',c',e1,-,-,h1⟩,-⟩:=h
 cases e1
 obtain ⟨b,o,e2,-,-⟩:=h1 hn;exact ⟨b,o,e2⟩
theorem chs_val {W:World} {v:Value} {L:List Ch} (h:Chs W v L):∃ a c,v = .slice a L.length c:=by
 obtain ⟨⟨a,c,e,-⟩,-⟩:=h;exact ⟨a,c,e⟩
end Ck
end
section
open Go.RowKit Go.Shelf
namespace Ck
open Mem Pk Bd
structure BAt (w:World) (L:List UInt8) (W:World):Prop where
 blk:∃ p v,(p = .pointer none ∨ p = .pointer (some ⟨w.heap.size,0,none⟩)) ∧ W.heap[w.heap.size]? = some (bd p v) ∧ Own8 W (w.heap.size + 1) v L
 bel:Below w.heap.size w W
 size:w.heap.size + 1 ≤ W.heap.size
theorem BAt.start (w:World):BAt w [] (w.alloc (bd (.pointer none) (.slice none 0 0))):=⟨⟨_,_,.inl rfl,alloc_new w _,own8_nil _ _⟩,(Below.refl _ _).alloc (Nat.le_refl _) _,by simp⟩
theorem BAt.below {w W W':World} {L:List UInt8} (h:BAt w L W) (k:Below W.heap.size W W'):BAt w L W':=by
 obtain ⟨⟨p,v,hp,hb,hO⟩,h2,h3⟩:=h;exact ⟨⟨p,v,hp,(k.block _ (by omega)).trans hb,own8_kept (Kept.of_below (T:=fun _ => False) k) hO (fun _ _ h => h)⟩,h2.trans (k.mono (by omega)),Nat.le_trans h3 k.size⟩
theorem BAt.alloc {w W:World} {L:List UInt8} (h:BAt w L W) (o:Obj):BAt w L (W.alloc o):=h.below ((Below.refl _ _).alloc (Nat.le_refl _) o)
theorem w_str {w W:World} {L:List UInt8} (h:BAt w L W) (s:ByteArray) (hl:L.length ≤ 100000) (hs:s.size ≤ 100000) :
  Calls Tryz.prog 81 #[.pointer (some ⟨w.heap.size,0,none⟩),.string s] W fun e W' => e = .returned (.tuple #[.int .i64 s.size,.nilIface]) ∧ BAt w (L ++ s.data.toList) W':=by
 obtain ⟨⟨p,v,hp,hb,hO⟩,h2,h3⟩:=h;refine (wstr_any w.heap.size (w.heap.size + 1) p v hp L s W hb hO (by omega) h3 hl hs).mono ?_
 rintro e W' ⟨he,⟨v',hb',hO'⟩,k,-⟩;exact ⟨he,⟨_,v',.inr rfl,hb',hO'⟩,h2.trans (k.to_below h2.size (fun _ _ _ => by omega)),Nat.le_trans h3 k.size⟩
theorem w_byte {w W:World} {L:List UInt8} (h:BAt w L W) (c:UInt8) (hl:L.length ≤ 100000) :
  Calls Tryz.prog 82 #[.pointer (some ⟨w.heap.size,0,none⟩),.int .u8 (c.toNat:Int)] W fun e W' => e = .returned .nilIface ∧ BAt w (L ++ [c]) W':=by
 obtain ⟨⟨p,v,hp,hb,hO⟩,h2,h3⟩:=h;refine (wbyte_any w.heap.size (w.heap.size + 1) p v hp L c W hb hO (by omega) h3 hl).mono ?_
 rintro e W' ⟨he,⟨v',hb',hO'⟩,k⟩;exact ⟨he,⟨_,v',.inr rfl,hb',hO'⟩,h2.trans (k.to_below h2.size (fun _ _ _ => by omega)),Nat.le_trans h3 k.size⟩
theorem b_string {w W:World} {L:List UInt8} (h:BAt w L W) :
  Calls Tryz.prog 83 #[.pointer (some ⟨w.heap.size,0,none⟩)] W fun e W' => e = .returned (.string (str L)) ∧ Below w.heap.size w W':=by
 obtain ⟨⟨p,v,hp,hb,hO⟩,h2,h3⟩:=h;refine (Tryz.Builder_String_any_k w.heap.size w.heap.size _ _ (Lib.IsBuilderF.of (builder_of hp hb hO (by omega))) (by omega)).mono ?_
 rintro e W' ⟨he,-,k,-⟩;exact ⟨he,h2.trans k⟩
theorem oneL_len (c:Ch):c.2.size ≤ (oneL c).length:=by
 unfold oneL sealL;rw [List.length_append,List.length_append,size_list];omega
theorem one_in {l:List Ch} {c:Ch} (h:c ∈ l):(oneL c).length ≤ (l.flatMap oneL).length:=by
 induction l with
 | nil => simp at h
 | cons a l ih =>
  rw [List.flatMap_cons,List.length_append]
  rcases List.mem_cons.1 h with rfl | h
  ·omega
  ·have:=ih h;omega
theorem take_len (l:List Ch) (k:Nat):((l.take k).flatMap oneL).length ≤ (l.flatMap oneL).length:=by
 have e:l.flatMap oneL = (l.take k).flatMap oneL ++ (l.drop k).flatMap oneL:=by rw [← List.flatMap_append,List.take_append_drop]
 rw [e,List.length_append];omega
def hdL (v:Int):List UInt8:=[66,78,83,73] ++ [b8 v]
theorem joinL_snoc (v:Int) (l:List Ch) {k:Nat} (h:k < l.length):hdL v ++ (l.take (k + 1)).flatMap oneL = hdL v ++ (l.take k).flatMap oneL ++ oneL (chAt l k):=by
 rw [take_next l k h,List.flatMap_append,List.append_assoc];simp
theorem hJL (v:Int) (l:List Ch) {k:Nat} {h0:List UInt8} (hh:hdL v = h0) (h:k < l.length):h0 ++ (l.take (k + 1)).flatMap oneL = h0 ++ (l.take k).flatMap oneL ++ oneL (chAt l k):=by
 rw [← hh];exact joinL_snoc v l h
def joinV (v:Int) (l:List Ch):Value:=.tuple #[.string (joinS v l),.int .i64 (joinE v l)]
theorem joinV_bad {v:Int} {l:List Ch} {c:Int} (h:joinE v l = c) (hc:c ≠ 0):joinV v l = .tuple #[.string ⟨#[]⟩,.int .i64 c]:=by
 unfold joinV joinS;rw [h,if_neg hc]
 rfl
theorem joinV_good {v:Int} {l:List Ch} (h:joinE v l = 0):joinV v l = .tuple #[.string (str (hdL v ++ l.flatMap oneL)),.int .i64 0]:=by
 unfold joinV joinS;rw [h,if_pos rfl]
 rfl
theorem joinGo_order {last:Int} {l:List Ch} {k:Nat} (h:joinGo 0 l = joinGo last (l.drop k)) (hk:k < l.length) (hc:(chAt l k).1 ≤ last ∨ 255 < (chAt l k).1):joinGo 0 l = 12:=by
 rw [h,drop_here l k hk,joinGo,if_pos hc]
theorem joinGo_big {last:Int} {l:List Ch} {k:Nat} (h:joinGo 0 l = joinGo last (l.drop k)) (hk:k < l.length) (hc:¬ ((chAt l k).1 ≤ last ∨ 255 < (chAt l k).1)) (hb:1048576 < (chAt l k).2.size):joinGo 0 l = 10:=by
 rw [h,drop_here l k hk,joinGo,if_neg hc,if_pos hb]
theorem joinGo_next {last:Int} {l:List Ch} {k:Nat} (h:joinGo 0 l = joinGo last (l.drop k)) (hk:k < l.length) (hc:¬ ((chAt l k).1 ≤ last ∨ 255 < (chAt l k).1)) (hb:¬ 1048576 < (chAt l k).2.size):joinGo 0 l = joinGo (chAt l k).1 (l.drop (k + 1)):=by
 rw [h,drop_here l k hk,joinGo,if_neg hc,if_neg hb]
theorem joinGo_end {last:Int} {l:List Ch} {k:Nat} (h:joinGo 0 l = joinGo last (l.drop k)) (hk:¬ k < l.length):joinGo 0 l = 0:=by
 rw [h,List.drop_eq_nil_of_le (by omega)]
 rfl
theorem join_any (n:Int) (v:Value) (l:List Ch) (w:World) (h:Chs w v l) (hl:(l.flatMap oneL).length ≤ 90000) (hl2:l.length ≤ 90000) :
  Calls Tryz.prog 42 #[.int .i64 n,v] w fun e w' => e = .returned (joinV n l) ∧ Below w.heap.size w w':=by
 obtain ⟨a,cap,rfl⟩:=chs_val h;have H:=hid h;clear h;have HL:=hid hl;clear hl
 by_cases hn:n < 0 ∨ 255 < n
 ·have hV:=hid (joinV_bad (v:=n) (l:=l) (c:=1) (by unfold joinE;exact if_pos hn) (by decide))
  by_cases h1:n < 0
  ·have hd:decide (n < 0) = true:=decide_eq_true h1
   clear hn h1;go_enter Tryz.func42,Tryz.ntmps42;go_wp2_with fail;go_ret2;exact ⟨by rw [hV.out];rfl,Below.refl _ _⟩
  ·have hd:decide (n < 0) = false:=decide_eq_false h1
   have hd2:decide (255 < n) = true:=decide_eq_true (by omega);clear hn h1;go_enter Tryz.func42,Tryz.ntmps42;go_wp2_with fail;go_ret2;exact ⟨by rw [hV.out];rfl,Below.refl _ _⟩
 ·have hJ:Hid (joinE n l = joinGo 0 l):=hid (by unfold joinE;exact if_neg hn)
  have hd:decide (n < 0) = false:=decide_eq_false (by omega);have hd2:decide (255 < n) = false:=decide_eq_false (by omega);have hw:IntKind.u8.wrap n = ((b8 n).toNat:Int):=b8_val n;have hhd:Hid (hdL n = [] ++ [66,78,83,73] ++ [b8 n]):=hid rfl;clear hn;generalize b8 n = B at *;go_enter Tryz.func42,Tryz.ntmps42;go_wp2_with fail;refine (w_str (BAt.start w) ⟨#[66,78,83,73]⟩ (by simp) (by decide)).mono ?_
  rintro e w1 ⟨rfl,k1⟩;replace k1:=hid k1;go_wp2_with fail;refine (w_byte k1.out B (by simp)).mono ?_
  rintro e w2 ⟨rfl,k2⟩;have hB0:=hid (show BAt w (hdL n) w2 by rw [hhd.out];exact k2)
  have hhl:(hdL n).length = 5:=by rw [hhd.out];rfl
  clear k1 k2 hhd;go_wp2_with fail;generalize hh0:hdL n = hd0 at *;have hhead:=hid hh0;clear hh0
  go_loopw [7,22] (fun lv i wr => ∃ (k:Nat) (last:Int),lv = .int .i64 last ∧ i = .int .i64 k ∧ k ≤ l.length ∧ Hid (joinGo 0 l = joinGo last (l.drop k)) ∧ Hid (BAt w (hd0 ++ (l.take k).flatMap oneL) wr)) (fun _ i _ => l.length - (intOf i).toNat)
  case atStart => exact ⟨0,0,rfl,rfl,by omega,hid rfl,hid (by rw [List.take_zero,List.flatMap_nil,List.append_nil];exact hB0.out)⟩
  case round =>
   clear hB0 hd hd2 hw;obtain ⟨k,last,rfl,rfl,hk,hT,hb⟩:=hrel
   by_cases hlt:k < l.length
   ·obtain ⟨b,o,rfl⟩:=some_chs H.out (by omega)
    have hc:=chs_at (chs_below H.out hb.out.bel) hlt;have c1:=hc.2.1;have c2:=hc.2.2
    have hlt':(k:Int) < l.length:=by omega
    have hbs:=hb.out.size;have hO1:=hid (fun hc => joinGo_order hT.out hlt hc);have hO2:=hid (fun hc hb => joinGo_big hT.out hlt hc hb);have hO3:=hid (fun hc hb => joinGo_next hT.out hlt hc hb);have hF:=hid (hJL n l hhead.out hlt);have hm:=one_in (chAt_mem hlt);have hm2:=take_len l k;have hm3:=oneL_len (chAt l k)
    have hlen:(hd0 ++ (l.take k).flatMap oneL).length ≤ 100000:=by rw [List.length_append];have:=HL.out;omega
    have hlo:(oneL (chAt l k)).length ≤ 90000:=by have:=HL.out;omega
    clear hT hlt hc hm hm2;generalize chAt l k = c at *;obtain ⟨kk,body⟩:=c;simp only at c1 c2 hm3;have HONE:=hid (fun W => one_any (kk,body) W (by simp only;omega));unfold vCh at HONE;simp only at HONE;generalize hd0 ++ (l.take k).flatMap oneL = acc at *
    by_cases h1:kk ≤ last
    ·have hV:=hid (joinV_bad (v:=n) (l:=l) (c:=12) (by rw [hJ.out];exact hO1.out (.inl h1)) (by decide))
     have hq:decide (kk ≤ last) = true:=decide_eq_true h1;clear h1;go_wp2_with fail;go_ret2;exact ⟨by rw [hV.out];rfl,(hb.out.alloc _).bel⟩
    ·have hq:decide (kk ≤ last) = false:=decide_eq_false h1
     by_cases h2:255 < kk
     ·have hV:=hid (joinV_bad (v:=n) (l:=l) (c:=12) (by rw [hJ.out];exact hO1.out (.inr h2)) (by decide))
      have hq2:decide (255 < kk) = true:=decide_eq_true h2;clear h1 h2;go_wp2_with fail;go_ret2;exact ⟨by rw [hV.out];rfl,(hb.out.alloc _).bel⟩
     ·have hq2:decide (255 < kk) = false:=decide_eq_false h2
      by_cases h3:1048576 < body.size
      ·have hV:=hid (joinV_bad (v:=n) (l:=l) (c:=10) (by rw [hJ.out];exact hO2.out (by rintro (h | h) <;> omega) h3) (by decide))
       have hq3:decide ((1048576:Int) < (body.size:Nat)) = true:=decide_eq_true (by omega);clear h1 h2 h3;go_wp2_with fail;go_ret2;exact ⟨by rw [hV.out];rfl,(hb.out.alloc _).bel⟩
      ·have hN:=hid (hO3.out (by rintro (h | h) <;> omega) h3)
       have hq3:decide ((1048576:Int) < (body.size:Nat)) = false:=decide_eq_false (by omega);clear h1 h2 h3 hO1 hO2 hO3;go_wp2_with fail;refine (HONE.out _).mono ?_
       rintro e w3 ⟨rfl,hb3⟩;have hb4:=(hb.out.alloc _).below hb3;replace hb4:=hid hb4;clear hb3 hb;go_wp2_with fail;refine (w_str hb4.out (str (oneL (kk,body))) hlen (by rw [str_size];omega)).mono ?_
       rintro e w4 ⟨rfl,hb5⟩;rw [str_data,← hF.out] at hb5;replace hb5:=hid hb5;clear hb4;go_wp2_with fail
       go_roundw
       case rel => exact ⟨k + 1,kk,rfl,by go_num,by omega,hN,hb5⟩
       case measure => simp [intOf];omega
   ·have hV:=hid (joinV_good (v:=n) (l:=l) (by rw [hJ.out];exact joinGo_end hT.out hlt))
    obtain rfl:k = l.length:=by omega
    have hge:decide (l.length < l.length) = false:=decide_eq_false hlt;rw [List.take_of_length_le (Nat.le_refl _),← hhead.out] at hb;clear hlt hT;go_wp2_with fail;refine (b_string hb.out).mono ?_
    rintro e w3 ⟨rfl,hb3⟩;go_wp2_with fail;go_ret2;exact ⟨by rw [hV.out];rfl,hb3⟩
end Ck
end
section
open Go.RowKit Go.Shelf
namespace Ck
open Mem Pk Bd
theorem wstr_keeps (b B:Nat) (p v:Value) (hp:p = .pointer none ∨ p = .pointer (some ⟨b,0,none⟩)) (l:List UInt8) (s:ByteArray) (w:World) (hb:w.heap[b]? = some (bd p v)) (hO:Own8 w B v l) (hbB:b < B) (hBw:B ≤ w.heap.size) (hl:l.length ≤ 100000) (hs:s.size ≤ 100000) :
  Calls Tryz.prog 81 #[.pointer (some ⟨b,0,none⟩),.string s] w fun e w' => e = .returned (.tuple #[.int .i64 s.size,.nilIface]) ∧ (∃ v',w'.heap[b]? = some (bd (.pointer (some ⟨b,0,none⟩)) v') ∧ Own8 w' B v' (l ++ s.data.toList)) ∧ Kept (fun k => k = b ∨ B ≤ k) w w' ∧ (∀ x,x < w.heap.size → x ≠ b → v.ownBlock ≠ some x → w'.heap[x]? = w.heap[x]?):=by
 obtain ⟨i0,hi,hz0,hz1,hz2⟩:=info_parts info8;have HC:=hid (check_any b p v hp w hb);have HB:=hid hb;clear hb hp;go_enter Tryz.func81,Tryz.ntmps81;go_wp2_with fail;refine HC.out.mono ?_
 rintro e w1 ⟨rfl,hb1,k1,o1⟩;have hO1:w1.ownsRow B 5 1 v l.length (cells8 l):=own8_kept k1 hO (fun k hk h => by subst h;omega);have c0:w1.cell? ⟨b,0,none⟩ = some (.pointer (some ⟨b,0,none⟩)):=(cell_at hb1 0).trans rfl;have c1:w1.cell? ⟨b,1,none⟩ = some v:=(cell_at hb1 1).trans rfl;have hs1:=k1.size
 go_wp2_with (at_builtin;refine Lib.wpList_append_own_string _ rfl _ _ 76 9 rfl B 5 i0 Tryz.underlying76 Tryz.underlying9 hi hz0 hz1 hz2 _ _ _ rfl hO1 s rfl (by unfold maxLen;omega) (by omega) (by omega) ?_;intro v2 w2 hown hgrow _;obtain ⟨bx,cx,rfl⟩:=own_slice hown;have hb2:w2.heap[b]? = some (bd (.pointer (some ⟨b,0,none⟩)) v):=(hgrow.block b (lt_of_block hb1) (fun e => by have:=(hO1.lt _ e.symm).1;omega)).trans hb1;have d0:w2.cell? ⟨b,0,none⟩ = some (.pointer (some ⟨b,0,none⟩)):=(cell_at hb2 0).trans rfl;have d1:w2.cell? ⟨b,1,none⟩ = some v:=(cell_at hb2 1).trans rfl;have f1:w2.frozen? ⟨b,1,none⟩ = false:=free_at hb2 1)
 go_ret2;have hKa:Kept (fun k => k = b ∨ B ≤ k) w w1:=k1.mono (fun i hi h => .inl h);refine ⟨rfl,⟨_,(set_at hb2 1 _).trans rfl,?_⟩,(hKa.grown hgrow (fun k er _ => .inr (hO1.lt k er).1)).setCell (p:=⟨b,1,none⟩) (fun _ => .inl rfl) _,fun x hx hxb hxv => ?_⟩
 ·unfold Own8
  rw [cells8_append,List.length_append,size_list];exact own_setCell hown hbB _
 ·rw [Below.heap_setCell _ _ _ _ hxb]
  exact (hgrow.block x (by omega) (fun e => hxv e.symm)).trans (k1.block x hx hxb)
def KeepsT (b:Nat) (W W':World):Prop:=∀ x cs t f,W.heap[x]? = some (.cells cs t f) → x ≠ b → t ≠ 5 → W'.heap[x]? = some (.cells cs t f)
theorem KeepsT.trans {b:Nat} {A B C:World} (h:KeepsT b A B) (k:KeepsT b B C):KeepsT b A C:=fun x cs t f hx hb ht => k x cs t f (h x cs t f hx hb ht) hb ht
theorem KeepsT.below {b:Nat} {W W':World} (h:Below W.heap.size W W'):KeepsT b W W':=fun _ _ _ _ hx _ _ => (h.block _ (lt_of_block hx)).trans hx
theorem KeepsT.alloc {b:Nat} (W:World) (o:Obj):KeepsT b W (W.alloc o):=fun _ _ _ _ hx _ _ => alloc_at o hx
theorem KeepsT.own {b:Nat} {W W':World} (h:KeepsT b W W') {base:Nat} {e:TypeId} {k:Nat} {v:Value} {n:Nat} {cs:List Value} (ho:W.ownsRow base e k v n cs) (hb:b < base) (ht:e ≠ 5):W'.ownsRow base e k v n cs:=by
 refine ⟨ho.1,?_⟩
 rcases ho.2 with h2 | ⟨g,cap,cur,ev,hg,hh,r⟩
 ·exact .inl h2
 ·exact .inr ⟨g,cap,cur,ev,hg,h g cur e (0,0) hh (by omega) ht,r⟩
theorem w_strX {w W:World} {L:List UInt8} (h:BAt w L W) (s:ByteArray) (hl:L.length ≤ 100000) (hs:s.size ≤ 100000) :
  Calls Tryz.prog 81 #[.pointer (some ⟨w.heap.size,0,none⟩),.string s] W fun e W' => e = .returned (.tuple #[.int .i64 s.size,.nilIface]) ∧ BAt w (L ++ s.data.toList) W' ∧ KeepsT w.heap.size W W':=by
 obtain ⟨⟨p,v,hp,hb,hO⟩,h2,h3⟩:=h;refine (wstr_keeps w.heap.size (w.heap.size + 1) p v hp L s W hb hO (by omega) h3 hl hs).mono ?_
 rintro e W' ⟨he,⟨v',hb',hO'⟩,k,hk⟩;refine ⟨he,⟨⟨_,v',.inr rfl,hb',hO'⟩,h2.trans (k.to_below h2.size (fun _ _ _ => by omega)),Nat.le_trans h3 k.size⟩,fun x cs t f hx hne ht => (hk x (lt_of_block hx) hne (fun e => ?_)).trans hx⟩
 rcases hO.2 with ⟨rfl,_⟩ | ⟨g,cap,cur,rfl,hg,hh,_⟩
 ·cases e
 ·have:g = x:=by simpa [Value.ownBlock] using e
  subst this;rw [hx] at hh
  cases hh
  exact ht rfl
end Ck
end
end Go.Proofs.YtnlijlknjhkoaaaGreat
