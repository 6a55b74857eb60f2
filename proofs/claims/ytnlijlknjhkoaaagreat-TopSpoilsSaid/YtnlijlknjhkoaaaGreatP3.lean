/-
  PART 3 of what law TopSettles leans on: plain lemmas and walks, of which each says its own condition.
-/
import Derived.Test.YtnlijlknjhkoaaaGreatP2
open Go.Lib (hid)
set_option maxRecDepth 100000
set_option maxHeartbeats 16000000
namespace Go.Proofs.YtnlijlknjhkoaaaGreat
section
open Go.RowKit Go.Shelf
namespace Rn
open Mem Pk Bd Ck
def OwnR (w:World) (B:Nat) (v:Value) (r:List (Nat × Nat)):Prop:=w.ownsRow B 213 2 v r.length (r.flatMap runC)
theorem ownR_snoc {w:World} {B:Nat} {v:Value} {r:List (Nat × Nat)} {p:Nat × Nat} (h:w.ownsRow B 213 2 v (r.length + 1) (r.flatMap runC ++ [.int .u64 (p.1:Int),.int .i64 (p.2:Int)])):OwnR w B v (r ++ [p]):=by
 unfold OwnR;rw [flat_snoc,List.length_append,List.length_singleton];exact h
theorem run_one (a b:Int):∀ x ∈ [Value.int .u64 a,Value.int .i64 b],x.oneCell' = true:=by
 intro u hu;simp only [List.mem_cons,List.not_mem_nil,or_false] at hu
 rcases hu with rfl | rfl <;> rfl
theorem set_last (init:List (Nat × Nat)) (v c d:Nat):((init ++ [(v,c)]).flatMap runC).set (init.length * 2 + 1) (.int .i64 (d:Int)) = (init ++ [(v,d)]).flatMap runC:=by
 rw [flat_snoc,flat_snoc,List.set_append_right _ _ (by rw [flat_length runC_len];omega),flat_length runC_len,show init.length * 2 + 1 - init.length * 2 = 1 by omega]
 rfl
theorem of_any (v:Value) (l:List Nat) (w:World) (hv:Us w v l) (hl:l.length ≤ 1000) :
  Calls Tryz.prog 133 #[v] w fun e w' => (∃ r,e = .returned r ∧ OwnR w' w.heap.size r (ofR l)) ∧ Below w.heap.size w w':=by
 obtain ⟨i0,hi,hz0,hz1,hz2⟩:=info_parts infoRun2;obtain ⟨a,cap,rfl⟩:=hv.len;have HV:=hid hv;clear hv;go_enter Tryz.func133,Tryz.ntmps133;go_wp2_with fail
 go_loopw [3,9] (fun o i wr => ∃ k:Nat,i = .int .i64 k ∧ k ≤ l.length ∧ Hid (OwnR wr w.heap.size o (ofR (l.take k))) ∧ Hid (Below w.heap.size w wr)) (fun _ i _ => l.length - (intOf i).toNat)
 case atStart => exact ⟨0,rfl,by omega,hid (World.ownsRow_nil _ _ _ _),hid (Below.refl _ _)⟩
 case round =>
  obtain ⟨k,rfl,hk,hO,hb⟩:=hrel
  by_cases hlt:k < l.length
  ·have hlt':(k:Int) < (l.length:Nat):=by omega
   obtain ⟨b,off,rfl⟩:=HV.out.addr (by omega);obtain ⟨x,hx⟩:=some_at hlt;have hcx:wr.cell? ⟨b,off + k,none⟩ = some (.int .u64 (x:Int)):=(hb.out.cell (p:=⟨b,off + k,none⟩) (sl_lt HV.out (by omega))).trans (sl_one HV.out rfl hx);have hnx:Hid (ofR (l.take (k + 1)) = ofStep (ofR (l.take k)) x):=hid (by rw [take_snoc hx,ofR_snoc])
   have hlen:(ofR (l.take k)).length ≤ k:=by have:=(ofR_good (l.take k)).2.2.2;rw [List.length_take] at this;omega
   have hsum:∀ q ∈ ofR (l.take k),q.2 ≤ 1000:=fun q hq => by have h1:=sumC_mem hq;have h2:=sumC_ofR (l.take k);rw [List.length_take] at h2;omega
   replace hsum:=hid hsum;clear hx;generalize ofR (l.take k) = acc at *
   rcases split_last acc with rfl | ⟨init,⟨p,c⟩,rfl⟩
   ·obtain ⟨a2,cap2,rfl⟩:=(own_sl hO.out).len
    rw [ofStep_nil] at hnx;have hwx:Hid (wr.heap.size = wr.heap.size):=hid rfl;clear hlen
    go_wp2_with (at_builtin;refine wpList_append_src (by rfl) _ _ 210 (by rfl) w.heap.size 213 i0 (.agg #[.int .u64 0,.int .i64 0]) 2 16 Tryz.underlying210 hi hz0 hz1 hz2 rfl (by decide) _ 0 [] (by rfl) (World.ownsRow.alloc hO.out _) _ 1 [.int .u64 (x:Int),.int .i64 1] (by rfl) rfl (src_new (alloc_new wr _) _) (run_one _ _) (by unfold maxLen;omega) (by omega) (hb.out.alloc hb.out.size _).size ?_;intro v1 w1 hown hgrow)
    have hOf:=hid (ownR_snoc (r:=[]) (p:=(x,1)) hown);have hbf:=hid ((hb.out.alloc hb.out.size _).grown hgrow (hb.out.alloc hb.out.size _).size (fun k e => (hO.out.lt k e).1));clear hown hgrow;go_wp2_with fail
    go_roundw
    case rel => exact ⟨k + 1,by go_num,by omega,by rw [hnx.out];exact hOf,hbf⟩
    case measure => simp [intOf];omega
   ·have hO2:=hO.out
    have hil:(init ++ [(p,c)]).length = init.length + 1:=by simp
    have hlo:=hO.out.lt
    rcases own_slice' hO2 with ⟨-,h0,-⟩ | ⟨g,cap2,rfl,hg1,hg2,hg3,hg4⟩
    ·omega
    unfold OwnR at hO hO2;rw [hil] at hg3 hO hO2 hlen
    have hil1:0 ≤ (init.length:Int) + 1 - 1:=by omega
    have hcv:wr.cell? ⟨g,init.length * 2,none⟩ = some (.int .u64 (p:Int)):=by
     have:=sl_at runC_len (own_sl hO2) hil (j:=init.length) (x:=(p,c)) (by simp) (i:=0) (u:=.int .u64 (p:Int)) rfl
     simpa using this
    have hcc:wr.cell? ⟨g,init.length * 2 + 1,none⟩ = some (.int .i64 (c:Int)):=by
     have:=sl_at runC_len (own_sl hO2) hil (j:=init.length) (x:=(p,c)) (by simp) (i:=1) (u:=.int .i64 (c:Int)) rfl
     simpa using this
    have hcb:c ≤ 1000:=hsum.out (p,c) (by simp)
    by_cases hpx:p = x
    ·subst hpx
     rw [ofStep_same] at hnx;obtain ⟨st1,st2⟩:=hO2.stored (init.length * 2 + 1) (.int .i64 ((c + 1:Nat):Int));rw [set_last] at st1;have hbf:=hid (hb.out.grown st2 hb.out.size (fun k e => by cases e;exact hg1));have hff:wr.frozen? ⟨g,init.length * 2 + 1,none⟩ = false:=hO2.frozenAt _;replace st1:=hid st1;rw [hil];have heq:((p:Int) == (p:Int)) = true:=beq_self_eq_true _;clear hO2 st2 hlo hO hb hil;go_wp2_with fail
     go_roundw
     case rel => exact ⟨k + 1,by go_num,by omega,by rw [hnx.out];exact hid (by unfold OwnR;rw [show (init ++ [(p,c + 1)]).length = init.length + 1 by simp];exact st1.out),hbf⟩
     case measure => simp [intOf];omega
    ·rw [ofStep_other init hpx] at hnx
     have hne:((p:Int) == (x:Int)) = false:=by rw [beq_eq_false_iff_ne];omega
     rw [hil];have hOw:=hid hO2;have hlo2:=hid hlo;clear hpx hO2 hlo hO
     go_wp2_with (at_builtin;refine wpList_append_src (by rfl) _ _ 210 (by rfl) w.heap.size 213 i0 (.agg #[.int .u64 0,.int .i64 0]) 2 16 Tryz.underlying210 hi hz0 hz1 hz2 rfl (by decide) _ (init.length + 1) _ (by rfl) (World.ownsRow.alloc hOw.out _) _ 1 [.int .u64 (x:Int),.int .i64 1] (by rfl) rfl (src_new (alloc_new wr _) _) (run_one _ _) (by unfold maxLen;omega) (by omega) (hb.out.alloc hb.out.size _).size ?_;intro v1 w1 hown hgrow)
     have hOf:=hid (ownR_snoc (r:=init ++ [(p,c)]) (p:=(x,1)) (by rw [hil];exact hown));have hbf:=hid ((hb.out.alloc hb.out.size _).grown hgrow (hb.out.alloc hb.out.size _).size (fun k e => (hlo2.out k e).1));clear hown hgrow hil;go_wp2_with fail
     go_roundw
     case rel => exact ⟨k + 1,by go_num,by omega,by rw [hnx.out];exact hOf,hbf⟩
     case measure => simp [intOf];omega
  ·obtain rfl:k = l.length:=by omega
   have hlt':¬ ((l.length:Int) < (l.length:Nat)):=by omega
   rw [List.take_length] at hO;go_wp2_with fail;go_ret;exact ⟨⟨_,rfl,hO.out⟩,hb.out⟩
theorem encode_any (v:Value) (l:List Nat) (w:World) (hv:Us w v l) (hl:l.length ≤ 1000) (hx:∀ x ∈ l,x < W64) :
  Calls Tryz.prog 96 #[v] w fun e w' => e = .returned (.string (str (encRuns l))) ∧ Below w.heap.size w w':=by
 obtain ⟨hG,-,hmem,hrl⟩:=ofR_good l;have hval:=hid (fun p hp => hx _ (hmem p hp));have hcnt:=hid (fun (p:Nat × Nat) (hp:p ∈ ofR l) => (show p.2 ≤ 1000 by have h1:=sumC_mem hp;have h2:=sumC_ofR l;omega));have HO:=hid (fun W (h:Us W v l) => of_any v l W h hl);have HV:=hid hv;have hE:Hid (encRuns l = encR (ofR l)):=hid rfl;clear hv hx hmem;generalize ofR l = r at *;replace hG:=hid hG;go_enter Tryz.func96,Tryz.ntmps96;go_wp2_with fail;have hb0:=BAt.start w;refine (HO.out _ (HV.out.below hb0.bel)).mono ?_
 rintro e w1 ⟨⟨y,rfl,hO⟩,hb⟩;have hB1:=hid (hb0.below hb);have hR:=hid (own_mono hO (C:=w.heap.size + 1) (by simp));obtain ⟨a,cap,rfl⟩:=(own_sl hO).len;clear hb0 hb hO;go_wp2_with fail
 go_loopw [9] (fun i wr => ∃ k:Nat,i = .int .i64 k ∧ k ≤ r.length ∧ Hid (BAt w (encR (r.take k)) wr) ∧ Hid (OwnR wr (w.heap.size + 1) (.slice a r.length cap) r)) (fun i _ => r.length - (intOf i).toNat)
 case atStart => exact ⟨0,rfl,by omega,hB1,hR⟩
 case round =>
  clear hB1 hR;obtain ⟨k,rfl,hk,hB,hR⟩:=hrel
  by_cases hlt:k < r.length
  ·have hlt':(k:Int) < (r.length:Nat):=by omega
   obtain ⟨b,off,rfl⟩:=(own_sl hR.out).addr (by omega);obtain ⟨x,hx⟩:=some_at hlt;obtain ⟨c0,c1⟩:=run_at (own_sl hR.out) rfl hx;have hmx:=List.mem_of_getElem? hx;have hv1:=hval.out x hmx;have hc1:=hcnt.out x hmx;have hnx:=hid (encR_take hx)
   have hlen:(encR (r.take k)).length ≤ 20000:=by have:=encR_len (r.take k);rw [List.length_take] at this;omega
   obtain ⟨p,c⟩:=x;simp only at c0 c1 hv1 hc1 hnx;clear hx hmx hlt;generalize encR (r.take k) = acc at *;have HP:=hid (fun W => put_any p W hv1);have HC:=hid (fun W => put_any c W (by unfold W64;omega));have hpl:=putL_length p;have hcl:=putL_length c
   have hcw:IntKind.u64.wrap (c:Int) = (c:Int):=by rw [IntKind.wrap_u64];omega
   clear hv1;go_wp2_with fail;refine (HP.out _).mono ?_
   rintro e w3 ⟨rfl,hb3⟩;have hB3:=hid ((hB.out.alloc _).below hb3);have hw1:=hB.out.size;have hx3:=hid ((hb3.block _ (by simp)).trans (alloc_new wr (.cells #[.int .u64 (p:Int),.int .i64 (c:Int)] 213)));have hK3:=hid ((KeepsT.alloc (b:=w.heap.size) wr (.cells #[.int .u64 (p:Int),.int .i64 (c:Int)] 213)).trans (KeepsT.below hb3));clear hb3 hB;go_wp2_with fail;refine (w_strX hB3.out (str (putL p)) (by omega) (by rw [str_size];omega)).mono ?_
   rintro e w4 ⟨rfl,hB4,hK4⟩;rw [str_data] at hB4;have hx4:=hK4 _ _ _ _ hx3.out (by omega) (by decide);have d1:w4.cell? ⟨wr.heap.size,1,none⟩ = some (.int .i64 (c:Int)):=cell_at hx4 1;replace hK3:=hid (hK3.out.trans hK4);replace hB4:=hid hB4;clear hK4 hB3;go_wp2_with fail;refine (HC.out _).mono ?_
   rintro e w5 ⟨rfl,hb5⟩;have hB5:=hid (hB4.out.below hb5);replace hK3:=hid (hK3.out.trans (KeepsT.below hb5));clear hb5 hB4;go_wp2_with fail;refine (w_strX hB5.out (str (putL c)) (by rw [List.length_append];omega) (by rw [str_size];omega)).mono ?_
   rintro e w6 ⟨rfl,hB6,hK6⟩;rw [str_data,← hnx.out] at hB6;replace hB6:=hid hB6;replace hR:=hid ((hK3.out.trans hK6).own hR.out (by omega) (by decide));clear hK6;go_wp2_with fail
   go_roundw
   case rel => exact ⟨k + 1,by go_num,by omega,hB6,hR⟩
   case measure => simp [intOf];omega
  ·obtain rfl:k = r.length:=by omega
   have hge:¬ ((r.length:Int) < (r.length:Nat)):=by omega
   rw [List.take_length,← hE.out] at hB;go_wp2_with fail;refine (b_string hB.out).mono ?_
   rintro e w3 ⟨rfl,hb3⟩;go_wp2_with fail;go_ret;exact ⟨rfl,hb3⟩
end Rn
end
section
open Go.RowKit
namespace Pk
open Mem
theorem rest_str (l:List UInt8) (k:Nat):rest (str l) k = str (l.drop k):=ext_list (by rw [rest_list,str_data,str_data])
theorem num_str {n:Nat} (hn:n < W64) (t:List UInt8):numN (str (putL n ++ t)) 0 = n ∧ numE (str (putL n ++ t)) 0 = 0 ∧ rest (str (putL n ++ t)) (numK (str (putL n ++ t)) 0) = str t:=by
 have e:=read_put hn t;have hd:(str (putL n ++ t)).data.toList = putL n ++ t:=str_data _;unfold numN numE numK;rw [if_pos rfl,if_pos rfl,if_pos rfl,hd,e];refine ⟨rfl,rfl,?_⟩
 rw [rest_str]
 congr 1
 exact List.drop_left
def RB (b:Nat) (t:List UInt8) (W:World):Prop:=W.heap[b]? = some (rd (str t) 0)
theorem RB.new (s:List UInt8) (w:World):RB w.heap.size s (w.alloc (rd (str s) 0)):=alloc_new w _
theorem RB.below {b:Nat} {t:List UInt8} {W W':World} (h:RB b t W) (k:Below W.heap.size W W'):RB b t W':=(k.block _ (lt_of_block h)).trans h
theorem rb_num {b n:Nat} {t:List UInt8} {w:World} (h:RB b (putL n ++ t) w) (hn:n < W64) (ht:t.length ≤ 1000000) :
  Calls Tryz.prog 144 #[.pointer (some ⟨b,0,none⟩)] w fun e' w' => e' = .returned (.int .u64 (n:Nat)) ∧ RB b t w' ∧ Kept (· = b) w w':=by
 obtain ⟨h1,h2,h3⟩:=num_str hn t;refine (num_any b _ 0 w h (by rw [str_size,List.length_append];have:=putL_length n;omega)).mono ?_
 rintro e w' ⟨rfl,hb,hk⟩;rw [h2,h3] at hb;exact ⟨by rw [h1],hb,hk⟩
theorem rb_take {b:Nat} {x t:List UInt8} {w:World} (h:RB b (x ++ t) w) :
  Calls Tryz.prog 185 #[.pointer (some ⟨b,0,none⟩),.int .i64 (x.length:Int)] w fun e' w' => e' = .returned (.string (str x)) ∧ RB b t w' ∧ Kept (· = b) w w':=by
 have hc:(0:Int) = 0 ∧ (0:Int) ≤ (x.length:Int) ∧ (x.length:Int) ≤ (str (x ++ t)).size:=⟨rfl,by omega,by rw [str_size,List.length_append];omega⟩
 have hk:takeK (str (x ++ t)) 0 (x.length:Int) = x.length:=by unfold takeK;rw [if_pos hc];exact Int.toNat_natCast _
 have he:takeE (str (x ++ t)) 0 (x.length:Int) = 0:=by unfold takeE;rw [if_pos rfl,if_pos hc.2]
 refine (take_any b _ 0 _ w h).mono ?_
 rintro e w' ⟨rfl,hb,hkk⟩;rw [hk,he,rest_str,List.drop_left] at hb;refine ⟨?_,hb,hkk⟩
 unfold takeS;rw [hk]
 congr 2
 refine ext_list ?_
 rw [head_list,str_data,str_data,List.take_left]
theorem rb_left {b:Nat} {t:List UInt8} {w:World} (h:RB b t w) :
  Calls Tryz.prog 187 #[.pointer (some ⟨b,0,none⟩)] w fun e' w' => e' = .returned (.int .i64 (t.length:Int)) ∧ w = w':=by
 have:=left_any b _ 0 w h
 rwa [str_size] at this
theorem rb_err {b:Nat} {t:List UInt8} {w:World} (h:RB b t w) :
  Calls Tryz.prog 186 #[.pointer (some ⟨b,0,none⟩)] w fun e' w' => e' = .returned (.int .i64 0) ∧ w = w':=err_any b _ 0 w h
theorem rb_done {b:Nat} {w:World} (h:RB b [] w) :
  Calls Tryz.prog 145 #[.pointer (some ⟨b,0,none⟩)] w fun e' w' => e' = .returned (.int .i64 0) ∧ w = w':=done_any b (str []) 0 w h
end Pk
end
section
open Go.RowKit Go.Shelf
namespace Rn
open Mem Pk
theorem bel_drewN {B:Nat} {w W:World} (h:Below B w W) (n:Nat):Below B w (W.drewN n):=⟨h.os,h.tape,h.output,h.size,h.block⟩
theorem may_any (v:Value) (r:List (Nat × Nat)) (w:World) (hv:Runs w v r) (hg:Good r) (hl:r.length ≤ 1000) :
  Calls Tryz.prog 227 #[v] w fun e w' => e = .returned (.bool true) ∧ Below w.heap.size w w':=by
 obtain ⟨a,cap,rfl⟩:=hv.len;have HV:=hid hv;have HG:=hid hg;clear hv hg;go_enter Tryz.func227,Tryz.ntmps227;go_wp2_with fail
 go_loopw [7] (fun i wr => ∃ k:Nat,i = .int .i64 k ∧ k ≤ r.length ∧ Hid (Below w.heap.size w wr)) (fun i _ => r.length - (intOf i).toNat)
 case atStart => exact ⟨0,rfl,by omega,hid (Below.refl _ _)⟩
 case round =>
  obtain ⟨k,rfl,hk,hb⟩:=hrel
  by_cases hlt:k < r.length
  ·have hlt':(k:Int) < (r.length:Nat):=by omega
   obtain ⟨b,off,rfl⟩:=HV.out.addr (by omega);obtain ⟨x,hx⟩:=some_at hlt;obtain ⟨c0,c1⟩:=run_at (HV.out.below hb.out) rfl hx;have hp:=HG.out.pos x (List.mem_of_getElem? hx);have hd1:decide ((x.2:Int) < 1) = false:=decide_eq_false (by omega);have hbl:=sl_lt (HV.out.below hb.out) (by omega)
   by_cases h0:k = 0
   ·subst h0
    clear hx;simp only [Nat.zero_mul,Nat.add_zero] at c0 c1;go_wp2_with fail;go_quiet (fail);go_wp2_with fail
    go_roundw
    case rel => exact ⟨1,by go_num,by omega,hid (bel_drewN (hb.out.alloc hb.out.size _) _)⟩
    case measure => simp [intOf];omega
   ·obtain ⟨j,rfl⟩:∃ j,k = j + 1:=⟨k - 1,by omega⟩
    obtain ⟨y,hy⟩:=some_at (l:=r) (k:=j) (by omega);obtain ⟨d0,d1⟩:=run_at (HV.out.below hb.out) rfl hy;have hne:=HG.out.adj j y x hy hx
    have hq:((y.1:Int) == (x.1:Int)) = false:=by rw [beq_eq_false_iff_ne];omega
    have hd2:decide ((0:Int) < (j:Int) + 1) = true:=decide_eq_true (by omega)
    have hj0:(0:Int) ≤ (j:Int):=by omega
    have hj1:(j:Int) < (r.length:Nat):=by omega
    clear hx hy d1 hne;go_wp2_with fail;go_quiet (fail);go_wp2_with fail
    go_roundw
    case rel => exact ⟨j + 1 + 1,by go_num,by omega,hid (bel_drewN (hb.out.alloc hb.out.size _) _)⟩
    case measure => simp [intOf];omega
  ·obtain rfl:k = r.length:=by omega
   have hge:¬ ((r.length:Int) < (r.length:Nat)):=by omega
   go_wp2_with fail;go_ret;exact ⟨rfl,hb.out⟩
theorem sumC_take_le (r:List (Nat × Nat)):∀ k,sumC (r.take k) ≤ sumC r:=by
 induction r with
 | nil => intro k;simp
 | cons p r ih =>
  intro k
  cases k with
  | zero => simp [sumC]
  | succ k =>
   have:=ih k;unfold sumC at *;simp only [List.take_succ_cons,List.map_cons,List.sum_cons];omega
def OwnU (w:World) (B:Nat) (v:Value) (l:List Nat):Prop:=w.ownsRow B 120 1 v l.length (l.map u64C)
theorem spread_any (v:Value) (r:List (Nat × Nat)) (w:World) (hv:Runs w v r) (hg:Good r) (hl:r.length ≤ 1000) (hs:sumC r ≤ 1000) :
  Calls Tryz.prog 205 #[v,.int .i64 (sumC r:Nat)] w fun e w' => (∃ y,e = .returned (.tuple #[y,.bool true]) ∧ OwnU w' w.heap.size y (spread r)) ∧ Below w.heap.size w w':=by
 obtain ⟨i0,hi,hz0,hz1,hz2⟩:=info_parts infoU;obtain ⟨a,cap,rfl⟩:=hv.len;have HV:=hid hv;have HG:=hid hg;have HM:=hid (may_any _ r w hv hg hl);have hsr:(spread r).length = sumC r:=spread_len r;have hS:=hid (fun k (p:Nat × Nat) (h:r[k]? = some p) => sumC_take h);have hS2:=hid (fun k => sumC_take_le r k);obtain ⟨N,hN⟩:∃ N,sumC r = N:=⟨_,rfl⟩;rw [hN] at hs hsr hS2 ⊢
 have hn0:(0:Int) ≤ (N:Int):=by omega
 have hr0:=hid hsr;clear hN hv hg hsr;go_enter Tryz.func205,Tryz.ntmps205;go_wp2_with fail;refine HM.out.mono ?_
 rintro e w1 ⟨rfl,hb⟩;replace hb:=hid hb;go_wp2_with fail
 go_loopw [6,18] (fun o i wr => ∃ k:Nat,i = .int .i64 k ∧ k ≤ r.length ∧ Hid (OwnU wr w.heap.size o (spread (r.take k))) ∧ Hid (Below w.heap.size w wr)) (fun _ i _ => r.length - (intOf i).toNat)
 case atStart => exact ⟨0,rfl,by omega,hid (World.ownsRow_nil _ _ _ _),hb⟩
 case round =>
  clear hb HM;obtain ⟨k,rfl,hk,hO,hb⟩:=hrel
  by_cases hlt:k < r.length
  ·have hlt':(k:Int) < (r.length:Nat):=by omega
   obtain ⟨b,off,rfl⟩:=HV.out.addr (by omega);obtain ⟨⟨x,c⟩,hx⟩:=some_at hlt;obtain ⟨c0,c1⟩:=run_at (HV.out.below hb.out) rfl hx;simp only at c0 c1;have hnx:=hid (spread_take hx);have hs1:=hS.out k _ hx;have hs2:=hS2.out (k + 1);have hle:(spread (r.take k)).length = sumC (r.take k):=spread_len _;simp only at hs1 hnx
   have hcN:c ≤ N:=by omega
   have hlc:(spread (r.take k)).length + c ≤ N:=by omega
   clear hs1 hs2 hle hx;generalize spread (r.take k) = acc at *;obtain ⟨a2,cap2,rfl⟩:=(own_sl hO.out).len;have hd:decide ((N:Int) - (acc.length:Nat) < (c:Nat)) = false:=decide_eq_false (by omega);have hRep:=hid (fun (W:World) (g:Nat) (h:W.cell? ⟨g,0,none⟩ = some (.int .u64 (x:Int))) => repeatU_any g 0 1 (.int .u64 (x:Int)) rfl c W h (by omega));go_wp2_with fail;obtain ⟨W2,hW2⟩:∃ W2,(wr.alloc (.cells #[.int .u64 (x:Int),.int .i64 (c:Int)] 291)).alloc (.cells #[.int .u64 (x:Int)] 120) = W2:=⟨_,rfl⟩
   have hc2:W2.cell? ⟨wr.heap.size + 1,0,none⟩ = some (.int .u64 (x:Int)):=by
    rw [← hW2];have:=alloc_new (wr.alloc (.cells #[.int .u64 (x:Int),.int .i64 (c:Int)] 291)) (.cells #[.int .u64 (x:Int)] 120);rw [World.size_alloc] at this;exact cell_at this 0
   have hO2:OwnU W2 w.heap.size (.slice a2 acc.length cap2) acc:=by rw [← hW2];exact World.ownsRow.alloc (World.ownsRow.alloc hO.out _) _
   have hb2:Below w.heap.size w W2:=by rw [← hW2];exact (hb.out.alloc hb.out.size _).alloc (by have:=hb.out.size;simp;omega) _
   rw [hW2];clear hW2;refine (hRep.out _ _ hc2).mono ?_
   rintro e w3 ⟨⟨y,rfl,hOy,-⟩,hb3⟩;have hO3:=hid (own_below hO2 hb3);have hb4:=hid (hb2.trans (hb3.mono hb2.size));have hsy:=hid (sl_src (own_sl hOy) (fun h => by rw [h];rfl));have hsz:=hb4.out.size;clear hO2 hb2 hOy hb3
   go_wp2_with (at_builtin;refine wpList_append_src (by rfl) _ _ 162 (by rfl) w.heap.size 120 i0 (.int .u64 0) 1 8 Tryz.underlying162 hi hz0 hz1 hz2 rfl (by decide) _ acc.length _ (by rfl) hO3.out _ c (List.replicate c (.int .u64 (x:Int))) (by rfl) (by simp) hsy.out (fun v hv => by rw [List.eq_of_mem_replicate hv];rfl) (by unfold maxLen;omega) (by omega) hb4.out.size ?_;intro v5 w5 hown hgrow)
   have hOf:Hid (OwnU w5 w.heap.size v5 (acc ++ List.replicate c x)):=hid (by unfold OwnU;rw [List.length_append,List.length_replicate,List.map_append,List.map_replicate];exact hown);have hbf:=hid (hb4.out.grown hgrow hb4.out.size (fun k e => (hO3.out.lt k e).1));clear hown hgrow;go_wp2_with fail
   go_roundw
   case rel => exact ⟨k + 1,by go_num,by omega,by rw [hnx.out];exact hOf,hbf⟩
   case measure => simp [intOf];omega
  ·obtain rfl:k = r.length:=by omega
   have hge:¬ ((r.length:Int) < (r.length:Nat)):=by omega
   rw [List.take_length] at hO;go_wp2_with fail;go_ret2;exact ⟨⟨_,rfl,hO.out⟩,hb.out⟩
def OwnA (w:World) (B:Nat) (v:Value) (r:List (Nat × Nat)):Prop:=w.ownsRow B 291 2 v r.length (r.flatMap runC)
theorem encR_pos {r:List (Nat × Nat)} (h:0 < r.length):0 < (encR r).length:=by
 cases r with
 | nil => simp at h
 | cons p r =>
  have e:encR (p :: r) = putL p.1 ++ putL p.2 ++ encR r:=rfl;rw [e,List.length_append,List.length_append];have:=putL_pos p.1;omega
theorem encR_drop_len (r:List (Nat × Nat)) (k:Nat):(encR (r.drop k)).length ≤ 20 * r.length:=by
 have:=encR_len (r.drop k);rw [List.length_drop] at this;omega
theorem decode_any (l:List Nat) (w:World) (hl:l.length ≤ 1000) (hx:∀ x ∈ l,x < W64) :
  Calls Tryz.prog 155 #[.string (str (encRuns l)),.int .i64 (l.length:Nat)] w fun e w' => (∃ y,e = .returned (.tuple #[y,.int .i64 0]) ∧ Us w' y l) ∧ Below w.heap.size w w':=by
 obtain ⟨i0,hi,hz0,hz1,hz2⟩:=info_parts infoRun;obtain ⟨hG,hsp,hmem,hrl⟩:=ofR_good l;have hsum:=sumC_ofR l;have hval:=hid (fun p hp => hx _ (hmem p hp));have hE:encRuns l = encR (ofR l):=rfl;rw [hE];obtain ⟨n,hn⟩:∃ n,l.length = n:=⟨_,rfl⟩;rw [hn] at hl hrl hsum ⊢;have hn':=hid hn;replace hsp:=hid hsp;clear hx hmem hE hn;generalize ofR l = r at *;have HS:=hid (fun (W:World) v (h:Runs W v r) => spread_any v r W h hG (by omega) (by omega));rw [hsum] at HS;have hGo:=hid hG;have hsm:=hid (fun k => sumC_take_le r k)
 have hst:=hid (fun k p (h:r[k]? = some p) => sumC_take (k:=k) h);rw [hsum] at hsm;replace hsum:=hid hsum
 have hd0:(0:Int) ≤ (n:Int):=by omega
 have hd1:(n:Int) ≤ 4096:=by omega
 have hEl:=hid (fun k => encR_drop_len r k);clear hG;go_enter Tryz.func155,Tryz.ntmps155;go_wp2_with fail;refine (new_any _ _).mono ?_
 rintro e w1 ⟨rfl,hw1⟩;have hB0:=hid (show RB w.heap.size (encR (r.drop 0)) w1 by rw [hw1];exact RB.new _ _);have hb0:=hid (show Below w.heap.size w w1 by rw [hw1];exact (Below.refl _ _).alloc (Nat.le_refl _) _);clear hw1;go_wp2_with fail
 go_loopw [7,8] (fun o lf wr => ∃ k:Nat,k ≤ r.length ∧ lf = .int .i64 ((n:Int) - (sumC (r.take k):Nat)) ∧ Hid (RB w.heap.size (encR (r.drop k)) wr) ∧ Hid (OwnA wr (w.heap.size + 1) o (r.take k)) ∧ Hid (Below w.heap.size w wr)) (fun o _ _ => match o with | .slice _ k _ => r.length - k | _ => 0)
 case atStart => exact ⟨0,by omega,by simp [sumC],hB0,hid (World.ownsRow_nil _ _ _ _),hb0⟩
 case round =>
  clear hB0 hb0;obtain ⟨k,hk,rfl,hB,hO,hb⟩:=hrel
  have hlk:(encR (r.drop k)).length ≤ 20000:=by have:=hEl.out k;omega
  have hwl:=lt_of_block hB.out
  by_cases hlt:k < r.length
  ·obtain ⟨⟨x,c⟩,hx⟩:=some_at hlt
   have hpos:=encR_pos (r:=r.drop k) (by rw [List.length_drop];omega);have hdr:=hid (encR_drop hx);have hxv:=hval.out _ (List.mem_of_getElem? hx);have hcp:=hGo.out.pos _ (List.mem_of_getElem? hx);have hs1:=hst.out k _ hx;have hs2:=hsm.out (k + 1);have htk:=hid (take_snoc hx)
   have hle2:(encR (r.drop (k + 1))).length ≤ 20000:=by have:=hEl.out (k + 1);omega
   have HA:=hid (hGo.out.adj);replace hx:=hid hx;simp only at hxv hcp hs1 hdr;have HL:=rb_left hB.out;have hgt:decide ((0:Int) < ((encR (r.drop k)).length:Nat)) = true:=decide_eq_true (by omega);replace HL:=hid HL
   have htl:(r.take k).length = k:=by rw [List.length_take];omega
   rw [hdr.out] at hB;have HN1:=hid (rb_num hB.out hxv (by rw [List.length_append];have:=putL_length c;omega));generalize sumC (r.take k) = sk at *;generalize (encR (r.drop k)).length = L at *;obtain ⟨a2,cap2,rfl⟩:=(own_sl hO.out).len;rw [htl];go_wp2_with fail;refine HL.out.mono ?_
   rintro e w2 ⟨rfl,rfl⟩;go_wp2_with fail;refine HN1.out.mono ?_
   rintro e w2 ⟨rfl,hB2,k2⟩;have hO2:=hid (own_kept hO.out k2 (fun i hi h => by omega));have hb2:=hid (hb.out.trans (k2.to_below (B:=w.heap.size) (by omega) (fun i hi h => by omega)));have HN2:=hid (rb_num hB2 (show c < W64 by unfold W64;omega) (by omega));have hwl2:=k2.size;clear hO hb hB2 k2 HN1 HL;go_wp2_with fail;refine HN2.out.mono ?_
   rintro e w3 ⟨rfl,hB3,k3⟩;replace hO2:=hid (own_kept hO2.out k3 (fun i hi h => by omega));replace hb2:=hid (hb2.out.trans (k3.to_below (B:=w.heap.size) (by omega) (fun i hi h => by omega)));have hwl3:=k3.size;replace hB3:=hid hB3;clear HN2 k3;go_wp2_with fail;refine (rb_err hB3.out).mono ?_
   rintro e w4 ⟨rfl,rfl⟩;have hO3:Hid (w3.ownsRow (w.heap.size + 1) 291 2 (.slice a2 k cap2) k ((r.take k).flatMap runC)):=hid (by have:=hO2.out;rw [htl] at this;exact this)
   have q1:((c:Int) == 0) = false:=by rw [beq_eq_false_iff_ne];omega
   have q2:IntKind.u64.wrap ((n:Int) - (sk:Int)) = (n:Int) - (sk:Int):=by rw [IntKind.wrap_u64];omega
   have q3:decide ((n:Int) - (sk:Int) < (c:Int)) = false:=decide_eq_false (by omega);have q4:IntKind.i64.wrap (c:Int) = (c:Int):=IntWalk.i64_in _ (by omega)
   have hnk:sk + c ≤ n:=by omega
   rcases Nat.eq_zero_or_pos k with hk0 | hk0
   ·subst hk0
    clear hO2
    go_wp2_with (at_builtin;refine wpList_append_src (by rfl) _ _ 289 (by rfl) (w.heap.size + 1) 291 i0 (.agg #[.int .u64 0,.int .i64 0]) 2 16 Tryz.underlying289 hi hz0 hz1 hz2 rfl (by decide) _ 0 _ (by rfl) (World.ownsRow.alloc hO3.out _) _ 1 [.int .u64 (x:Int),.int .i64 (c:Int)] (by rfl) rfl (src_new (alloc_new w3 _) _) (run_one _ _) (by unfold maxLen;omega) (by omega) (by simp;omega) ?_;intro v5 w5 hown hgrow)
    have hOf:Hid (OwnA w5 (w.heap.size + 1) v5 (r.take (0 + 1))):=hid (by unfold OwnA;rw [htk.out,flat_snoc,List.length_append,List.length_take,Nat.min_eq_left (by omega)];exact hown);have hbf:=hid ((hb2.out.alloc hb2.out.size _).grown hgrow (hb2.out.alloc hb2.out.size _).size (fun k e => by have:=(hO3.out.lt k e).1;omega));have hBf:Hid (RB w.heap.size (encR (r.drop (0 + 1))) w5):=hid ((hgrow.block _ (by simp;omega) (fun e => by have:=(hO3.out.lt _ e.symm).1;omega)).trans (alloc_at _ hB3.out));clear hown hgrow;go_wp2_with fail
    go_roundw
    case rel => exact ⟨0 + 1,by omega,by rw [hs1];go_num,hBf,hOf,hbf⟩
    case measure =>
     obtain ⟨a9,c9,e9⟩:=(own_sl hOf.out).len;rw [e9,List.length_take,Nat.min_eq_left (by omega)];simp;omega
   ·obtain ⟨j,rfl⟩:∃ j,k = j + 1:=⟨k - 1,by omega⟩
    obtain ⟨y,hy⟩:=some_at (l:=r) (k:=j) (by omega);have hne:=HA.out j y _ hy hx.out;obtain ⟨bb,oo,hao⟩:=(own_sl hO3.out).addr (by omega);subst hao;have hc0:=(run_at (own_sl hO3.out) htl (j:=j) (x:=y) (by rw [List.getElem?_take_of_lt (by omega)];exact hy)).1
    have q5:((y.1:Int) == (x:Int)) = false:=by rw [beq_eq_false_iff_ne];simp only at hne;omega
    clear hO2 hy hne
    go_wp2_with (at_builtin;refine wpList_append_src (by rfl) _ _ 289 (by rfl) (w.heap.size + 1) 291 i0 (.agg #[.int .u64 0,.int .i64 0]) 2 16 Tryz.underlying289 hi hz0 hz1 hz2 rfl (by decide) _ (j + 1) _ (by rfl) (World.ownsRow.alloc hO3.out _) _ 1 [.int .u64 (x:Int),.int .i64 (c:Int)] (by rfl) rfl (src_new (alloc_new w3 _) _) (run_one _ _) (by unfold maxLen;omega) (by omega) (by simp;omega) ?_;intro v5 w5 hown hgrow)
    have hOf:Hid (OwnA w5 (w.heap.size + 1) v5 (r.take ((j + 1) + 1))):=hid (by unfold OwnA;rw [htk.out,flat_snoc,List.length_append,List.length_take,Nat.min_eq_left (by omega)];exact hown);have hbf:=hid ((hb2.out.alloc hb2.out.size _).grown hgrow (hb2.out.alloc hb2.out.size _).size (fun k e => by have:=(hO3.out.lt k e).1;omega));have hBf:Hid (RB w.heap.size (encR (r.drop ((j + 1) + 1))) w5):=hid ((hgrow.block _ (by simp;omega) (fun e => by have:=(hO3.out.lt _ e.symm).1;omega)).trans (alloc_at _ hB3.out));clear hown hgrow;go_wp2_with fail
    go_roundw
    case rel => exact ⟨(j + 1) + 1,by omega,by rw [hs1];go_num,hBf,hOf,hbf⟩
    case measure =>
     obtain ⟨a9,c9,e9⟩:=(own_sl hOf.out).len;rw [e9,List.length_take,Nat.min_eq_left (by omega)];simp;omega
  ·obtain rfl:k = r.length:=by omega
   rw [List.drop_length,show encR [] = [] from rfl] at hB;rw [List.take_length] at hO;rw [List.take_length,hsum.out];obtain ⟨a2,cap2,rfl⟩:=(own_sl hO.out).len
   have hq:(n:Int) - (n:Int) = 0:=by omega
   have HS2:=hid (HS.out _ _ (own_sl hO.out));go_wp2_with fail;refine (rb_left hB.out).mono ?_
   rintro e w2 ⟨rfl,rfl⟩;go_wp2_with fail;refine HS2.out.mono ?_
   rintro e w2 ⟨⟨y,rfl,hy⟩,hb2⟩
   have hyy:Us w2 y l:=by
    have:=own_sl hy;rw [hsp.out] at this;exact this
   go_wp2_with fail;go_ret2;exact ⟨⟨_,rfl,hyy⟩,hb.out.trans (hb2.mono hb.out.size)⟩
end Rn
end
section
open Go.RowKit Go.Shelf
namespace Dc
open Mem Pk Ck Rn Maps
theorem keyS:Keyed Tryz.prog 9:=string_keyed Tryz.underlying9
theorem zeroU (w:World):(zeroValue 120).run Tryz.prog w = .ok (.int .u64 0) w:=by kernel_rfl
def keyL (s:ByteArray):Lit:=.string s.data.toList
theorem keyL_of {s:ByteArray} (h:s.size ≤ maxLen):keyOf Tryz.prog 9 (.string s) = some (keyL s):=Go.WideMaps.keyOf_string_mk Tryz.underlying9 h
theorem keyL_is (s:ByteArray):WideAt.IsKeyLit (keyL s):=by unfold keyL;trivial
theorem keyL_ne {s t:ByteArray} (h:s ≠ t):keyL s ≠ keyL t:=by
 unfold keyL;intro e;simp only [Lit.string.injEq] at e;exact h (ext_list e)
def inW (ws:List ByteArray) (s:ByteArray):Bool:=ws.any (fun x => decide (x = s))
theorem inW_true {ws:List ByteArray} {s:ByteArray} (h:s ∈ ws):inW ws s = true:=by unfold inW;rw [List.any_eq_true];exact ⟨s,h,decide_eq_true rfl⟩
theorem inW_false {ws:List ByteArray} {s:ByteArray} (h:s ∉ ws):inW ws s = false:=by
 unfold inW;rw [List.any_eq_false];intro x hx e;rw [decide_eq_true_iff] at e;subst e;exact h hx
structure MD (D:DataW Unit) (ws:List ByteArray):Prop where
 isMap:IsMap D
 has_:∀ s,Maps.has D (keyL s) = inW ws s
 at_:∀ i s,ws[i]? = some s → D.atKey (keyL s) (.lit (.int .u64 0)) = .lit (.int .u64 (i:Nat))
theorem md_nil:MD (.map []) []:=⟨isMap_empty,fun s => rfl,fun i s h => by simp at h⟩
theorem MD.put {D:DataW Unit} {ws:List ByteArray} (h:MD D ws) {s:ByteArray} (hs:s ∉ ws):MD (D.put (keyL s) (.lit (.int .u64 (ws.length:Nat)))) (ws ++ [s]):=by
 refine ⟨h.isMap.put _ _,fun t => ?_,fun i t ht => ?_⟩
 ·by_cases e:t = s
  ·subst e
   rw [has_put_same h.isMap (keyL_is _),inW_true (by simp)]
  ·rw [has_put_other (keyL_ne e),h.has_]
   unfold inW;rw [List.any_append];simp [show ¬ s = t from fun h => e h.symm]
 ·by_cases hi:i < ws.length
  ·rw [List.getElem?_append_left hi] at ht
   have hne:t ≠ s:=fun e => hs (by rw [← e];exact List.mem_of_getElem? ht)
   rw [atKey_put_other (keyL_ne hne)];exact h.at_ i t ht
  ·have hi2:=(List.getElem?_eq_some_iff.1 ht).1
   simp only [List.length_append,List.length_singleton] at hi2
   obtain rfl:i = ws.length:=by omega
   rw [List.getElem?_append_right (Nat.le_refl _),Nat.sub_self] at ht;simp at ht;subst ht;exact atKey_put_same h.isMap (keyL_is _) _ _
def OwnS (w:World) (B:Nat) (v:Value) (l:List ByteArray):Prop:=w.ownsRow B 9 1 v l.length (l.map strC)
theorem one_str (s:ByteArray):∀ x ∈ [Value.string s],x.oneCell' = true:=fun x hx => by simp at hx;subst hx;rfl
theorem ownS_snoc {w:World} {B:Nat} {v:Value} {acc:List ByteArray} {s:ByteArray} (h:w.ownsRow B 9 1 v (acc.length + 1) (acc.map strC ++ [.string s])):OwnS w B v (acc ++ [s]):=by
 unfold OwnS;rw [List.map_append,List.length_append,List.length_singleton];exact h
def atCells (ats:List Nat) (n:Nat):List Value:=ats.map u64C ++ List.replicate (n - ats.length) (.int .u64 0)
theorem atCells_set {ats:List Nat} {n:Nat} (h:ats.length < n) (a:Nat):(atCells ats n).set ats.length (.int .u64 (a:Nat)) = atCells (ats ++ [a]) n:=by
 unfold atCells;rw [List.set_append_right _ _ (by simp),List.length_map,Nat.sub_self,List.map_append,List.length_append,List.length_singleton];obtain ⟨m,hm⟩:∃ m,n - ats.length = m + 1:=⟨n - ats.length - 1,by omega⟩;rw [hm,show n - (ats.length + 1) = m by omega,List.replicate_succ,List.set_cons_zero,List.append_assoc]
 rfl
theorem own_other {w w':World} {B g:Nat} {e:TypeId} {k:Nat} {v:Value} {n:Nat} {cs:List Value} (h:w.ownsRow B e k v n cs) (hg:w.grownBy w' (some g)) (hB:g < B):w'.ownsRow B e k v n cs:=by
 refine h.kept hg ?_
 cases hv:v.ownBlock with
 | none => exact .inl rfl
 | some j => exact .inr (fun e => by cases e;have:=(h.lt _ hv).1;omega)
theorem words_any (v:Value) (l:List ByteArray) (w:World) (hv:Strs w v l) (hl:l.length ≤ 1000) (hs:∀ s ∈ l,s.size ≤ 1000) :
  Calls Tryz.prog 134 #[v] w fun e w' => (∃ x y,e = .returned (.tuple #[x,y]) ∧ OwnS w' w.heap.size x (words l).1 ∧ Us w' y (words l).2 ∧ (∀ g,y = .slice (some g) (words l).2.length (words l).2.length → w.heap.size ≤ g.block)) ∧ Below w.heap.size w w':=by
 have hmm:=@run_makeMap Tryz.prog;obtain ⟨i0,hi,hz0,hz1,hz2⟩:=info_parts infoS;obtain ⟨j0,hj,hy0,hy1,hy2⟩:=info_parts infoU;obtain ⟨a,cap,rfl⟩:=hv.len;have HV:=hid hv;have HSz:=hid hs
 have hn0:(0:Int) ≤ (l.length:Nat):=by omega
 clear hv hs;obtain ⟨W1,hW1⟩:∃ W1,w.alloc (.map #[] 0) = W1:=⟨_,rfl⟩;obtain ⟨W2,hmk,hown,hgrow⟩:=run_make_full (P:=Tryz.prog) W1 (w.heap.size + 1) 162 120 j0 (.int .u64 0) 1 Tryz.underlying162 hj hy0 hy1 .i64 .i64 l.length (by rw [hy2];omega) (by unfold maxLen;omega) (by rw [← hW1];simp);rw [Nat.mul_one] at hown
 change W2.ownsRow _ _ _ _ _ (madeCells #[.int .u64 0] l.length).toList at hown
 rw [toList_madeCells_one] at hown
 have hsz1:W1.heap.size = w.heap.size + 1:=by rw [← hW1];simp
 rw [hsz1] at hown hmk
 have hM0:W2.ownsMap Tryz.prog 9 (plainElem (H:=Unit) Tryz.prog 120) w.heap.size 0 (.map []):=by
  have:=(World.ownsMap_made w Tryz.prog 9 (plainElem (H:=Unit) Tryz.prog 120));rw [hW1] at this;exact this.kept hgrow (by simp)
 have hb2:Below w.heap.size w W2:=by
  have h1:Below w.heap.size w W1:=by rw [← hW1];exact (Below.refl _ _).alloc (Nat.le_refl _) _
  exact h1.grown hgrow h1.size (by simp)
 have hs2:=hown.lt;replace hown:=hid hown;replace hM0:=hid hM0;replace hb2:=hid hb2
 replace hs2:w.heap.size + 2 ≤ W2.heap.size:=by have:=(hs2 (w.heap.size + 1) rfl).2;omega
 clear hgrow hsz1;go_enter Tryz.func134,Tryz.ntmps134;go_wp2_with fail;clear hmm hmk hW1 hn0
 go_loopw [5,17] (fun o i wr => ∃ (k:Nat) (ws:List ByteArray) (ats:List Nat) (D:DataW Unit),i = .int .i64 k ∧ k ≤ l.length ∧ Hid (words (l.take k) = (ws,ats)) ∧ Hid (MD D ws) ∧ Hid (wr.ownsMap Tryz.prog 9 (plainElem (H:=Unit) Tryz.prog 120) w.heap.size k D) ∧ Hid (wr.ownsRow (w.heap.size + 1) 120 1 (.slice (some ⟨w.heap.size + 1,0,none⟩) l.length l.length) l.length (atCells ats l.length)) ∧ Hid (OwnS wr (w.heap.size + 2) o ws) ∧ Hid (Below w.heap.size w wr) ∧ w.heap.size + 2 ≤ wr.heap.size) (fun _ i _ => l.length - (intOf i).toNat)
 case atStart => exact ⟨0,[],[],.map [],rfl,by omega,hid rfl,hid md_nil,hM0,hown,hid (World.ownsRow_nil _ _ _ _),hb2,hs2⟩
 case round =>
  clear hM0 hown hb2 hs2;obtain ⟨k,ws,ats,D,rfl,hk,hW,hD,hM,hA,hO,hb,hsz⟩:=hrel;have hok:=words_ok (l.take k);rw [hW.out] at hok
  have hal:ats.length = k:=by have:=hok.len;rw [List.length_take] at this;simp only at this;omega
  have hwl:ws.length ≤ k:=by have:=hok.few;rw [List.length_take] at this;simp only at this;omega
  clear hok
  by_cases hlt:k < l.length
  ·have hlt':(k:Int) < (l.length:Nat):=by omega
   obtain ⟨b,off,rfl⟩:=HV.out.addr (by omega);obtain ⟨s,hs⟩:=some_at hlt;have hc:wr.cell? ⟨b,off + k,none⟩ = some (.string s):=(hb.out.cell (p:=⟨b,off + k,none⟩) (sl_lt HV.out (by omega))).trans (sl_one HV.out rfl hs);have hss:=HSz.out s (List.mem_of_getElem? hs);have hwt:=hid (words_take hs);have hk1:=hid (keyL_of (s:=s) (by unfold maxLen;omega));have hlo:=hid hO.out.lt;obtain ⟨a2,c2,rfl⟩:=(own_sl hO.out).len;rw [hW.out] at hwt;clear hs
   have hfr:∀ W:World,W.ownsRow (w.heap.size + 1) 120 1 (.slice (some ⟨w.heap.size + 1,0,none⟩) l.length l.length) l.length (atCells ats l.length) → W.frozen? ⟨w.heap.size + 1,k,none⟩ = false ∧ (W.cell? ⟨w.heap.size + 1,k,none⟩).isSome = true:=fun W h => by
    refine ⟨h.frozenAt k,?_⟩
    rw [h.cellAt k (by omega),List.getElem?_eq_getElem (by rw [h.1];omega)]
    rfl
   replace hfr:=hid hfr
   by_cases hin:s ∈ ws
   ·have hh:=hD.out.has_ s
    rw [inW_true hin] at hh;obtain ⟨f1,f2⟩:=find_mem hin;have hat2:=hD.out.at_ _ _ f2;rw [wStep_old hin] at hwt;generalize ws.findIdx (fun x => decide (x = s)) = m at *;have hat3:=hid hat2;obtain ⟨hf0,hf1⟩:=hfr.out wr hA.out;obtain ⟨old,hold⟩:=Option.isSome_iff_exists.1 hf1;clear hin f2 hat2 hf1
    go_wp2_with (at_lookup;refine wpList_lookup_own_ok_int _ (by rfl) _ _ 260 (by rfl) 9 120 .u64 keyS Tryz.underlying260 Tryz.underlying120 (zeroU _) w.heap.size k D (by rfl) hM.out _ (keyL s) (by rfl) hk1.out ?_;intro c hat hwc)
    have hcm:c = (m:Int):=by
     have:=hat.symm.trans hat3.out;simp only [DataW.lit.injEq,Lit.int.injEq] at this;exact this.2
    subst hcm;replace hat:=hid hat;replace hwc:=hid hwc;obtain ⟨st1,st2⟩:=hA.out.stored k (.int .u64 (m:Nat))
    have hAf:Hid ((wr.setCell ⟨w.heap.size + 1,k,none⟩ (.int .u64 (m:Nat))).ownsRow (w.heap.size + 1) 120 1 (.slice (some ⟨w.heap.size + 1,0,none⟩) l.length l.length) l.length (atCells (ats ++ [m]) l.length)):=hid (by
     rw [← hal,atCells_set (by omega)] at st1;rw [← hal]
     exact st1)
    have hMf:=hid (hM.out.kept st2 (by simp))
    have hOf:=hid (hO.out.kept st2 (by
     cases h:(Value.slice a2 ws.length c2).ownBlock with
     | none => exact .inl rfl
     | some j => refine .inr (fun e => ?_);cases e;have:=(hlo.out _ h).1;omega))
    have hbf:=hid (hb.out.grown st2 hb.out.size (fun j e => by cases e;omega));clear st1 st2
    go_roundw
    case rel => exact ⟨k + 1,ws,ats ++ [m],D,by go_num,by omega,hwt,hD,hid (hMf.out.mono (by omega)),hAf,hOf,hbf,by simpa [World.setCell] using hsz⟩
    case measure => simp [intOf];omega
   ·have hh:=hD.out.has_ s
    rw [inW_false hin] at hh;rw [wStep_new hin] at hwt;have hD2:=hid (hD.out.put hin);have hin2:=inW_false hin
    have hcw:IntKind.u64.wrap (ws.length:Int) = (ws.length:Int):=by rw [IntKind.wrap_u64];omega
    have hwf:Hid ((Lit.int .u64 (ws.length:Int)).wf = true):=hid (WalkArith.wf_u64 (by omega));clear hin
    have hnb:Hid (∀ j,j < w.heap.size + 2 → (Value.slice a2 ws.length c2).ownBlock = none ∨ (Value.slice a2 ws.length c2).ownBlock ≠ some j):=hid (fun j hj => by
     cases h:(Value.slice a2 ws.length c2).ownBlock with
     | none => exact .inl rfl
     | some j2 => refine .inr (fun e => ?_);cases e;have:=(hlo.out _ h).1;omega)
    clear hh;have hh2:=hD.out.has_ s;rw [hin2] at hh2
    go_wp2_with (first | (at_lookup;refine wpList_lookup_own_ok_int _ (by rfl) _ _ 260 (by rfl) 9 120 .u64 keyS Tryz.underlying260 Tryz.underlying120 (zeroU _) w.heap.size k D (by rfl) hM.out _ (keyL s) (by rfl) hk1.out ?_;intro c hat hwc;clear hat hwc) | (refine wpList_mapUpdate_own _ (by rfl) _ _ _ 260 (by rfl) 9 120 keyS Tryz.underlying260 _ w.heap.size k _ (by rfl) hM.out (by unfold maxLen;omega) _ _ _ (by rfl) (by rfl) hk1.out _ [] (plainElem_int Tryz.underlying120 hwf.out) ?_;intro w1 hown1 hgrow1;have hM1:=hid hown1;have hg1:=hid hgrow1;clear hown1 hgrow1;have hs1:=hg1.out.size;have hO1:=hid (hO.out.kept hg1.out (hnb.out w.heap.size (by omega)))) | (at_builtin;refine wpList_append_src (by rfl) _ _ 163 (by rfl) (w.heap.size + 2) 9 i0 (.string ByteArray.empty) 1 16 Tryz.underlying163 hi hz0 hz1 hz2 rfl (by decide) _ ws.length (ws.map strC) (by rfl) (World.ownsRow.alloc hO1.out _) _ 1 [.string s] (by rfl) rfl (src_new (alloc_new w1 _) _) (one_str _) (by unfold maxLen;omega) (by omega) (by simp;omega) ?_;intro v2 w2 hown2 hgrow2;have hO2:=hid (ownS_snoc hown2);have hg2:=hid hgrow2;clear hown2 hgrow2;have hA2:=hid (((hA.out.kept hg1.out (.inr (fun e => by have h9:w.heap.size + 1 = w.heap.size:=Option.some.inj e;omega))).alloc (.cells #[.string s] 9)).kept hg2.out (.inr (fun e => by have h9:w.heap.size + 2 ≤ w.heap.size + 1:=(hlo.out _ e.symm).1;omega)));have hf0:=(hfr.out w2 hA2.out).1;obtain ⟨old,hold⟩:=Option.isSome_iff_exists.1 (hfr.out w2 hA2.out).2))
    obtain ⟨st1,st2⟩:=hA2.out.stored k (.int .u64 (ws.length:Nat))
    have hAf:Hid ((w2.setCell ⟨w.heap.size + 1,k,none⟩ (.int .u64 (ws.length:Nat))).ownsRow (w.heap.size + 1) 120 1 (.slice (some ⟨w.heap.size + 1,0,none⟩) l.length l.length) l.length (atCells (ats ++ [ws.length]) l.length)):=hid (by
     rw [← hal,atCells_set (by omega)] at st1;rw [← hal]
     exact st1)
    have hMg:=((hM1.out.alloc (.cells #[.string s] 9)).kept hg2.out (fun e => by have:=(hlo.out _ e.symm).1;omega)).kept st2 (by simp);have hOf:=hid (own_other hO2.out st2 (by omega));have hbf:=hid ((((hb.out.grown hg1.out hb.out.size (fun j e => by cases e;exact Nat.le_refl _)).alloc (by omega) (.cells #[.string s] 9)).grown hg2.out (by simp;omega) (fun j e => by have:=(hlo.out _ e).1;omega)).grown st2 (by have:=hg2.out.size;simp at this;omega) (fun j e => by cases e;omega))
    have hszf:w.heap.size + 2 ≤ (w2.setCell ⟨w.heap.size + 1,k,none⟩ (.int .u64 (ws.length:Nat))).heap.size:=by have:=hg2.out.size;simp [World.setCell] at this ⊢;omega
    clear st1 st2
    go_roundw
    case rel => exact ⟨k + 1,ws ++ [s],ats ++ [ws.length],_,by go_num,by omega,hwt,hD2,hid hMg,hAf,hOf,hbf,hszf⟩
    case measure => simp [intOf];omega
  ·obtain rfl:k = l.length:=by omega
   have hge:¬ ((l.length:Int) < (l.length:Nat)):=by omega
   rw [List.take_length] at hW;go_wp2_with fail;go_ret2;refine ⟨⟨_,_,rfl,by rw [hW.out];exact own_mono hO.out (by omega),?_,fun g e => ?_⟩,hb.out⟩
   ·have:=own_sl hA.out
    unfold atCells at this;rw [hal,Nat.sub_self,List.replicate_zero,List.append_nil] at this;rw [hW.out];unfold Us;rw [hal];exact this
   ·simp at e
    rw [← e.1];simp
theorem put_str (s:ByteArray) (w:World) (hs:s.size ≤ 100000) :
  Calls Tryz.prog 135 #[.string s] w fun e w' => e = .returned (.string (str (putW s))) ∧ Below w.heap.size w w':=by
 have HP:=hid (fun W => put_any s.size W (by unfold W64;omega))
 have hcw:IntKind.u64.wrap (s.size:Int) = (s.size:Int):=by rw [IntKind.wrap_u64];omega
 have hE:Hid (str (putL s.size) ++ s = str (putW s)):=hid (str_cat _ _)
 have hz:(str (putL s.size)).size ≤ 10:=by rw [str_size];exact putL_length _
 go_enter Tryz.func135,Tryz.ntmps135;go_wp2_with fail;refine (HP.out _).mono ?_
 rintro e w1 ⟨rfl,hb⟩;go_wp2_with fail;go_ret;exact ⟨by rw [← hE.out];rfl,hb⟩
theorem encode_any (v:Value) (l:List ByteArray) (w:World) (hv:Strs w v l) (hl:l.length ≤ 400) (hs:∀ s ∈ l,s.size ≤ 100) :
  Calls Tryz.prog 97 #[v] w fun e w' => e = .returned (.string (str (encDict l))) ∧ Below w.heap.size w w':=by
 have hok:=words_ok l;have HW:=hid (words_any v l w hv (by omega) (fun s h => by have:=hs s h;omega));have hE:Hid (encDict l = putL (words l).1.length ++ encW (words l).1 ++ encRuns (words l).2):=hid rfl;have hfew:=hok.few;have hlen:=hok.len;have hsz:=hid (fun s h => hs s (hok.sub s h))
 have hat:Hid (∀ x ∈ (words l).2,x < W64):=hid (fun x hx => by
  obtain ⟨k,hk⟩:=List.getElem?_of_mem hx;have:=(words_met l hk).2.2;unfold W64
  omega)
 clear hok hs hv;generalize words l = p at *;obtain ⟨ws,ats⟩:=p;simp only at hfew hlen hsz hat hE HW;have hel:=hid (fun k => encW_len (ws:=ws.take k) (m:=100) (fun s h => hsz.out s (List.mem_of_mem_take h)));have HP:=hid (fun W => put_any ws.length W (by unfold W64;omega));have hpl:=putL_length ws.length
 have hcw:IntKind.u64.wrap (ws.length:Int) = (ws.length:Int):=by rw [IntKind.wrap_u64];omega
 go_enter Tryz.func97,Tryz.ntmps97;go_wp2_with fail;refine HW.out.mono ?_
 rintro e w1 ⟨⟨x,y,rfl,hO,hU,-⟩,hb⟩;have hS1:=hid (own_sl hO);replace hU:=hid hU;replace hb:=hid hb;obtain ⟨a,cap,rfl⟩:=(own_sl hO).len;clear hO;have HR:=hid (fun W (h:Us W y ats) => Rn.encode_any y ats W h (by omega) hat.out);go_wp2_with fail;refine (HP.out _).mono ?_
 rintro e w2 ⟨rfl,hb2⟩;have hB2:=hid ((BAt.start w1).below hb2);clear hb2;go_wp2_with fail;refine (w_str hB2.out (str (putL ws.length)) (by simp) (by rw [str_size];omega)).mono ?_
 rintro e w3 ⟨rfl,hB3⟩;rw [str_data,List.nil_append] at hB3;replace hB3:=hid hB3;clear hB2;generalize putL ws.length = hd0 at *;go_wp2_with fail
 go_loopw [20] (fun i wr => ∃ k:Nat,i = .int .i64 k ∧ k ≤ ws.length ∧ Hid (BAt w1 (hd0 ++ encW (ws.take k)) wr)) (fun i _ => ws.length - (intOf i).toNat)
 case atStart => exact ⟨0,rfl,by omega,by rw [List.take_zero,show encW [] = [] from rfl,List.append_nil];exact hB3⟩
 case round =>
  clear hB3;obtain ⟨k,rfl,hk,hB⟩:=hrel;have hlk:=hel.out k;rw [List.length_take] at hlk
  have hll:(hd0 ++ encW (ws.take k)).length ≤ 50000:=by
   rw [List.length_append];have:(10 + 100) * min k ws.length ≤ (10 + 100) * 400:=Nat.mul_le_mul_left _ (by omega);omega
  by_cases hlt:k < ws.length
  ·have hlt':(k:Int) < (ws.length:Nat):=by omega
   obtain ⟨b,off,rfl⟩:=hS1.out.addr (by omega);obtain ⟨s,hs⟩:=some_at hlt;have hc:wr.cell? ⟨b,off + k,none⟩ = some (.string s):=sl_one (hS1.out.below hB.out.bel) rfl hs;have hss:=hsz.out s (List.mem_of_getElem? hs);have hnx:=hid (encW_take hs);have HS:=hid (fun W => put_str s W (by omega));have hsl:=putW_len s;clear hs hlt hlk;generalize encW (ws.take k) = acc at *;go_wp2_with fail;refine (HS.out _).mono ?_
   rintro e w4 ⟨rfl,hb4⟩;have hB4:=hid (hB.out.below hb4);clear hb4 hB;go_wp2_with fail;refine (w_str hB4.out (str (putW s)) (by omega) (by rw [str_size];omega)).mono ?_
   rintro e w5 ⟨rfl,hB5⟩;rw [str_data,List.append_assoc,← hnx.out] at hB5;replace hB5:=hid hB5;go_wp2_with fail
   go_roundw
   case rel => exact ⟨k + 1,by go_num,by omega,hB5⟩
   case measure => simp [intOf];omega
  ·obtain rfl:k = ws.length:=by omega
   have hge:¬ ((ws.length:Int) < (ws.length:Nat)):=by omega
   rw [List.take_length] at hB hll;have hrl:=encRuns_len ats;clear hlk;go_wp2_with fail;refine (HR.out _ (hU.out.below hB.out.bel)).mono ?_
   rintro e w4 ⟨rfl,hb4⟩;have hB4:=hid (hB.out.below hb4);clear hb4 hB;go_wp2_with fail;refine (w_str hB4.out (str (encRuns ats)) (by omega) (by rw [str_size];omega)).mono ?_
   rintro e w5 ⟨rfl,hB5⟩;rw [str_data,← hE.out] at hB5;replace hB5:=hid hB5;go_wp2_with fail;refine (b_string hB5.out).mono ?_
   rintro e w6 ⟨rfl,hb6⟩;go_wp2_with fail;go_ret;exact ⟨rfl,hb.out.trans (hb6.mono hb.out.size)⟩
end Dc
end
section
open Go.RowKit Go.Shelf
namespace Dc
open Mem Pk Ck Rn Maps
theorem take_str (pre rest':List UInt8) (s:ByteArray) (w:World) (hl:(pre ++ (putW s ++ rest')).length ≤ 100000) (hs:s.size ≤ 64) (hv:Wd.validU s = true) :
  Calls Tryz.prog 206 #[.string (str (pre ++ (putW s ++ rest'))),.int .i64 (pre.length:Nat),.int .i64 64] w fun e w' => e = .returned (.tuple #[.string s,.int .i64 ((pre.length:Int) + ((putW s).length:Nat)),.int .i64 0]) ∧ Below w.heap.size w w':=by
 have hX:(str (pre ++ (putW s ++ rest'))).extract pre.length (str (pre ++ (putW s ++ rest'))).size = str (putL s.size ++ (s.data.toList ++ rest')):=by
  have:=rest_str (pre ++ (putW s ++ rest')) pre.length;unfold rest at this;rw [this,List.drop_left];unfold putW;rw [List.append_assoc]
 have hsz:(str (pre ++ (putW s ++ rest'))).size = (pre ++ (putW s ++ rest')).length:=str_size _
 have hle:(pre ++ (putW s ++ rest')).length = pre.length + (putW s).length + rest'.length:=by rw [List.length_append,List.length_append];omega
 obtain ⟨S,hS⟩:∃ S,str (pre ++ (putW s ++ rest')) = S:=⟨_,rfl⟩;rw [hS] at hX hsz ⊢;rw [hle] at hsz hl
 have h0:(0:Int) ≤ (pre.length:Int):=by omega
 have h1:(pre.length:Int) ≤ (S.size:Nat):=by omega
 have h2:pre.length ≤ S.size:=by omega
 have HV:=hid (Wd.valid_any s);rw [hv] at HV;have hsl:s.data.toList.length = s.size:=size_list s;have hst:=hid (str_of s);have hq1:decide ((64:Int) < (s.size:Nat)) = false:=decide_eq_false (by omega);have hq2:decide (((s.data.toList ++ rest').length:Int) < (s.size:Nat)) = false:=decide_eq_false (by rw [List.length_append];omega);have hq2':decide ((s.data.toList ++ rest').length < s.size) = false:=decide_eq_false (by rw [List.length_append];omega)
 have hq3:IntKind.u64.wrap ((s.data.toList ++ rest').length:Int) = ((s.data.toList ++ rest').length:Int):=by rw [IntKind.wrap_u64];have:(s.data.toList ++ rest').length ≤ 200000:=(by rw [List.length_append];omega);omega
 have hq4:IntKind.i64.wrap (s.size:Int) = (s.size:Int):=IntWalk.i64_in _ (by omega)
 have hrl:(s.data.toList ++ rest').length ≤ 200000:=by rw [List.length_append];omega
 have hsub:Hid ((S.size:Int) - (rest'.length:Nat) = (pre.length:Int) + ((putW s).length:Nat)):=hid (by omega);replace hsl:=hid hsl
 have hbd:(rest'.length:Int) ≤ 100000:=by omega
 rw [hsz] at hX;clear hS hle hv;go_enter Tryz.func206,Tryz.ntmps206;go_wp2_with fail;refine (new_any _ _).mono ?_
 rintro e w1 ⟨rfl,hw1⟩;have hB:=hid (show RB w.heap.size (putL s.size ++ (s.data.toList ++ rest')) w1 by rw [hw1];exact RB.new _ _);have hb:=hid (show Below w.heap.size w w1 by rw [hw1];exact (Below.refl _ _).alloc (Nat.le_refl _) _);clear hw1;go_wp2_with fail;refine (rb_num hB.out (by unfold W64;omega) (by omega)).mono ?_
 rintro e w2 ⟨rfl,hB2,k2⟩;have hwl:=lt_of_block hB.out;have hb2:=hid (hb.out.trans (k2.to_below (B:=w.heap.size) (by omega) (fun i hi h => by omega)));replace hB2:=hid hB2;have hs2:=k2.size;clear k2 hB hb;generalize hL:(s.data.toList ++ rest').length = L at *;replace hL:=hid hL;go_wp2_with fail;refine (rb_err hB2.out).mono ?_
 rintro e w3 ⟨rfl,rfl⟩;go_wp2_with fail;refine (rb_left hB2.out).mono ?_
 rintro e w3 ⟨rfl,rfl⟩;rw [hL.out];go_wp2_with fail;have HT:=rb_take hB2.out;rw [hsl.out,hst.out] at HT;refine HT.mono ?_
 rintro e w4 ⟨rfl,hB4,k4⟩;have hb4:=hid (hb2.out.trans (k4.to_below (B:=w.heap.size) (by omega) (fun i hi h => by omega)));replace hB4:=hid hB4;clear HT k4 hB2 hb2;go_wp2_with fail;refine (HV.out _ (by omega)).mono ?_
 rintro e w5 ⟨rfl,hb5⟩;have hB5:=hid (hB4.out.below hb5);have hb6:=hid (hb4.out.trans (hb5.mono hb4.out.size));clear hb5 hB4 hb4;go_wp2_with fail;refine (rb_left hB5.out).mono ?_
 rintro e w6 ⟨rfl,rfl⟩;go_wp2_with fail
 go_ret3
 exact ⟨by rw [← hsub.out];rfl,hb6.out⟩
structure SD (D:DataW Unit) (ws:List ByteArray):Prop where
 has_:∀ s,Maps.has D (keyL s) = inW ws s
 size_:Maps.size D = ws.length
theorem sd_nil:SD (.map []) []:=⟨fun _ => rfl,rfl⟩
theorem SD.put {D:DataW Unit} {ws:List ByteArray} (h:SD D ws) (ht:Tidy D) {s:ByteArray} (hs:s ∉ ws) (d:DataW Unit):SD (D.put (keyL s) d) (ws ++ [s]):=by
 refine ⟨fun t => ?_,?_⟩
 ·by_cases e:t = s
  ·subst e
   rw [has_put_same ht.isMap (keyL_is _),inW_true (by simp)]
  ·rw [has_put_other (keyL_ne e),h.has_]
   unfold inW;rw [List.any_append];simp [show ¬ s = t from fun h => e h.symm]
 ·rw [size_put ht,h.has_,inW_false hs,h.size_]
  simp
theorem may_any (vw va:Value) (ws:List ByteArray) (ats:List Nat) (M:Nat → Nat) (w:World) (hw:Strs w vw ws) (ha:Us w va ats) (hnd:ws.Nodup) (hl:ats.length ≤ 1000) (hl2:ws.length ≤ 1000) (hsz:∀ s ∈ ws,s.size ≤ 1000)
  (hM:∀ k a,ats[k]? = some a → a ≤ M k ∧ M (k + 1) = max (M k) (a + 1) ∧ a < ws.length) (hM0:M 0 = 0) (hM1:M ats.length = ws.length) :
  Calls Tryz.prog 207 #[vw,va] w fun e w' => e = .returned (.bool true) ∧ Below w.heap.size w w':=by
 have hmm:=@run_makeMap Tryz.prog;obtain ⟨a,cap,rfl⟩:=hw.len;obtain ⟨a2,cap2,rfl⟩:=ha.len;have HW:=hid hw;have HA:=hid ha;have HM:=hid hM;have HSz:=hid hsz;have HND:=hid hnd
 have hcw:IntKind.u64.wrap (ws.length:Int) = (ws.length:Int):=by rw [IntKind.wrap_u64];omega
 have HM1:=hid hM1
 have hMle:Hid (∀ k,k ≤ ats.length → M k ≤ ws.length):=hid (by
  intro k
  induction k with
  | zero => intro _;omega
  | succ k ih =>
   intro hk;obtain ⟨x,hx⟩:=some_at (l:=ats) (k:=k) (by omega);obtain ⟨-,h2,h3⟩:=hM k x hx;have:=ih (by omega)
   omega)
 have HM0:=hid hM0;clear hw ha hM hsz hnd hM1 hM0;go_enter Tryz.func207,Tryz.ntmps207;go_wp2_with fail
 go_loop [5,13] (fun m i => ∃ k:Nat,i = .int .i64 k ∧ k ≤ ats.length ∧ m = .int .u64 (M k:Nat)) (fun _ i => ats.length - (intOf i).toNat)
 case atStart => exact ⟨0,rfl,by omega,by rw [HM0.out];rfl⟩
 case round =>
  obtain ⟨k,rfl,hk,rfl⟩:=hrel
  by_cases hlt:k < ats.length
  ·have hlt':(k:Int) < (ats.length:Nat):=by omega
   obtain ⟨b,off,rfl⟩:=HA.out.addr (by omega);obtain ⟨x,hx⟩:=some_at hlt;have hc:w.cell? ⟨b,off + k,none⟩ = some (.int .u64 (x:Int)):=sl_one HA.out rfl hx;obtain ⟨h1,h2,h3⟩:=HM.out k x hx;have hMl:=hMle.out k hk;have hn:=hid h2;clear hx h2;generalize M k = m at *;have q1:decide (m < x) = false:=decide_eq_false (by omega);have q2:decide (ws.length ≤ x) = false:=decide_eq_false (by omega);have q3:decide ((m:Int) < (x:Int)) = false:=decide_eq_false (by omega);have q4:decide ((ws.length:Int) ≤ (x:Int)) = false:=decide_eq_false (by omega)
   have q5:IntKind.u64.wrap ((x:Int) + 1) = (x:Int) + 1:=by rw [IntKind.wrap_u64];omega
   go_wp2_with fail
   go_round
   case rel => exact ⟨k + 1,by go_num,by omega,by rw [hn.out];congr 1;omega⟩
   case measure => simp [intOf];omega
  ·obtain rfl:k = ats.length:=by omega
   have hge:¬ ((ats.length:Int) < (ats.length:Nat)):=by omega
   rw [HM1.out];obtain ⟨W1,hW1⟩:∃ W1,w.alloc (.map #[] 0) = W1:=⟨_,rfl⟩;have hM0:=hid (show W1.ownsMap Tryz.prog 9 (plainElem (H:=Unit) Tryz.prog 4) w.heap.size 0 (.map []) by rw [← hW1];exact World.ownsMap_made _ _ _ _);have hb1:=hid (show Below w.heap.size w W1 by rw [← hW1];exact (Below.refl _ _).alloc (Nat.le_refl _) _);go_wp2_with fail
   go_loopw [35] (fun i wr => ∃ (k:Nat) (D:DataW Unit),i = .int .i64 k ∧ k ≤ ws.length ∧ Hid (SD D (ws.take k)) ∧ Hid (wr.ownsMap Tryz.prog 9 (plainElem (H:=Unit) Tryz.prog 4) w.heap.size k D) ∧ Hid (Below w.heap.size w wr)) (fun i _ => ws.length - (intOf i).toNat)
   case atStart => exact ⟨0,_,rfl,by omega,hid sd_nil,hM0,hb1⟩
   case round =>
    clear hM0 hb1 hmm hW1;obtain ⟨k,D,rfl,hk,hD,hM,hb⟩:=hrel
    by_cases hlt:k < ws.length
    ·have hlt':(k:Int) < (ws.length:Nat):=by omega
     obtain ⟨b,off,rfl⟩:=HW.out.addr (by omega);obtain ⟨s,hs⟩:=some_at hlt;have hc:wr.cell? ⟨b,off + k,none⟩ = some (.string s):=(hb.out.cell (p:=⟨b,off + k,none⟩) (sl_lt HW.out (by omega))).trans (sl_one HW.out rfl hs);have hss:=HSz.out s (List.mem_of_getElem? hs)
     have hni:s ∉ ws.take k:=by
      intro hm;obtain ⟨j,hj⟩:=List.getElem?_of_mem hm
      have hjk:j < k:=by have:=(List.getElem?_eq_some_iff.1 hj).1;rw [List.length_take] at this;omega
      rw [List.getElem?_take_of_lt hjk] at hj;have:=(List.getElem?_inj (i:=j) (j:=k) (by omega) HND.out).1 (hj.trans hs.symm);omega
     have hD2:=hid (hD.out.put (hM.out.tidy keyS) hni (.lit (.bool true)));rw [← take_snoc hs] at hD2;have hk1:=hid (keyL_of (s:=s) (by unfold maxLen;omega));clear hs hni
     go_wp2_with (refine wpList_mapUpdate_own _ (by rfl) _ _ _ 316 (by rfl) 9 4 keyS Tryz.underlying316 _ w.heap.size k _ (by rfl) hM.out (by unfold maxLen;omega) _ _ _ (by rfl) (by rfl) hk1.out _ [] (plainElem_bool Tryz.underlying4 true) ?_;intro w1 hown1 hgrow1;have hM1:=hid hown1;have hbf:=hid (hb.out.grown hgrow1 hb.out.size (fun j e => by cases e;exact Nat.le_refl _));clear hown1 hgrow1)
     go_roundw
     case rel => exact ⟨k + 1,_,by go_num,by omega,hD2,hM1,hbf⟩
     case measure => simp [intOf];omega
    ·obtain rfl:k = ws.length:=by omega
     have hge2:¬ ((ws.length:Int) < (ws.length:Nat)):=by omega
     rw [List.take_length] at hD
     have hlen:=fun ty => hM.out.len Tryz.underlying316 ty
     rw [hD.out.size_] at hlen;go_wp2_with fail;go_ret;exact ⟨rfl,hb.out⟩
def outCells (l:List ByteArray) (n:Nat):List Value:=l.map strC ++ List.replicate (n - l.length) (.string ByteArray.empty)
theorem outCells_splice {l:List ByteArray} {n:Nat} (h:l.length < n) (s:ByteArray):splice (outCells l n) l.length [.string s] = outCells (l ++ [s]) n:=by
 unfold splice outCells;rw [List.take_append_of_le_length (by simp),List.take_of_length_le (by simp),List.length_singleton,List.drop_append,List.drop_eq_nil_of_le (by simp),List.nil_append,List.length_map,List.drop_replicate,List.map_append,List.length_append,List.length_singleton,List.append_assoc]
 congr 2
 congr 1
 omega
theorem outCells_len {l:List ByteArray} {n:Nat} (h:l.length ≤ n):(outCells l n).length = n:=by unfold outCells;simp;omega
theorem pick_any (vw va:Value) (ws l:List ByteArray) (ats:List Nat) (w:World) (hw:Strs w vw ws) (ha:Us w va ats) (hl:ats.length = l.length) (hl1:l.length ≤ 1000) (hl2:ws.length ≤ 1000)
  (hM:∀ (k:Nat) (s:ByteArray),l[k]? = some s → ∃ a,ats[k]? = some a ∧ ws[a]? = some s) :
  Calls Tryz.prog 208 #[vw,va] w fun e w' => (∃ y,e = .returned (.tuple #[y,.bool true]) ∧ Strs w' y l) ∧ Below w.heap.size w w':=by
 obtain ⟨i0,hi,hz0,hz1,hz2⟩:=info_parts infoS
 have hsz:(Tryz.prog.info? 9).map (·.size) = some 1:=by rw [hi];simp [hz1]
 obtain ⟨a,cap,rfl⟩:=hw.len;obtain ⟨a2,cap2,rfl⟩:=ha.len;have HW:=hid hw;have HA:=hid ha;have HM:=hid hM;rw [hl] at HA;rw [hl];obtain ⟨n,hn⟩:∃ n,l.length = n:=⟨_,rfl⟩;rw [hn] at HA hl1 ⊢;have hn':=hid hn;have hal:=hid (hl.trans hn);have HA2:Hid (Sl w (.slice a2 n cap2) n (ats.map u64C)):=hid (by have h1:=HA.out;unfold Us at h1;rw [hal.out] at h1;exact h1);clear HA
 have hcw:IntKind.u64.wrap (ws.length:Int) = (ws.length:Int):=by rw [IntKind.wrap_u64];omega
 have hn0:(0:Int) ≤ (n:Nat):=by omega
 obtain ⟨W2,hmk,hown,hgrow⟩:=run_make_full (P:=Tryz.prog) w w.heap.size 163 9 i0 (.string ByteArray.empty) 1 Tryz.underlying163 hi hz0 hz1 .i64 .i64 n (by rw [hz2];omega) (by unfold maxLen;omega) (Nat.le_refl _);rw [Nat.mul_one] at hown
 change W2.ownsRow _ _ _ _ _ (madeCells #[.string ByteArray.empty] n).toList at hown
 rw [toList_madeCells_one] at hown;have hg0:=hid (row_own hown);have hb0:=hid (show Below w.heap.size w W2 from (Below.refl _ _).grown hgrow (Nat.le_refl _) (by simp));clear hw ha hM hl hown hgrow hn;go_enter Tryz.func208,Tryz.ntmps208;go_wp2_with fail;clear hmk
 go_loopw [14] (fun i wr => ∃ k:Nat,i = .int .i64 k ∧ k ≤ n ∧ Hid (wr.heap[w.heap.size]? = some (.cells (outCells (l.take k) n).toArray 9 (0,0))) ∧ Hid (Below w.heap.size w wr)) (fun i _ => n - (intOf i).toNat)
 case atStart => exact ⟨0,rfl,by omega,by rw [List.take_zero];exact hg0,hb0⟩
 case round =>
  clear hg0 hb0;obtain ⟨k,rfl,hk,hg,hb⟩:=hrel
  by_cases hlt:k < n
  ·have hlt':(k:Int) < (n:Int):=by omega
   obtain ⟨s,hs⟩:=some_at (l:=l) (k:=k) (by rw [hn'.out];exact hlt);obtain ⟨x,hx1,hx2⟩:=HM.out k s hs;have hxl:=(List.getElem?_eq_some_iff.1 hx2).1;obtain ⟨b,off,rfl⟩:=HA2.out.addr (by omega);obtain ⟨b2,off2,rfl⟩:=HW.out.addr (by omega);have hc:wr.cell? ⟨b,off + k,none⟩ = some (.int .u64 (x:Int)):=(hb.out.cell (p:=⟨b,off + k,none⟩) (sl_lt HA2.out (by omega))).trans (sl_one HA2.out hal.out hx1);have hc2:wr.cell? ⟨b2,off2 + x,none⟩ = some (.string s):=(hb.out.cell (p:=⟨b2,off2 + x,none⟩) (sl_lt HW.out (by omega))).trans (sl_one HW.out rfl hx2)
   have hcap:=HW.out.cap.1;have q1:decide (ws.length ≤ x) = false:=decide_eq_false (by omega);have q2:decide ((ws.length:Int) ≤ (x:Int)) = false:=decide_eq_false (by omega)
   have q5:IntKind.u64.wrap ((x:Int) + 1) = (x:Int) + 1:=by rw [IntKind.wrap_u64];omega
   have b1:(0:Int) ≤ (x:Int):=by omega
   have b2':(x:Int) ≤ (cap:Nat):=by omega
   have b3:(x:Int) + 1 ≤ (cap:Nat):=by omega
   have b4:(x:Int) ≤ (x:Int) + 1:=by omega
   have b5:(0:Int) ≤ (k:Int):=by omega
   have b6:(k:Int) ≤ (n:Int):=by omega
   have b7:(0:Int) ≤ (x:Int) + 1:=by omega
   have b8:((x:Int) + 1).toNat = x + 1:=by omega
   have hcx:¬ cap = x:=by omega
   have hnk:¬ n = k:=by omega
   have htl:(l.take k).length = k:=by rw [List.length_take,hn'.out];omega
   have hsp:=hid (outCells_splice (l:=l.take k) (n:=n) (by omega) s);rw [htl,← take_snoc hs] at hsp;have hcl:=outCells_len (l:=l.take k) (n:=n) (by omega);have hc3:=hid hc2;clear hs hx1 hx2 hc2 htl;generalize outCells (l.take k) n = cur at *;go_wp2_with fail
   go_region_held3 (fun W:World => Below 0 W W) (exact Below.refl _ _) ((refine step_copy_spliceG (by rfl) (.tmp 27) (.tmp 32) 163 163 (by rfl) 9 1 Tryz.underlying163 hsz _ _ _ _ _ _ (by rfl) (by rfl) w.heap.size k cur 9 hg.out [.string s] 1 (by show min _ _ = 1;omega) (by simp) (fun _ => ⟨rfl,⟨b2,off2 + x,none⟩,rfl,fun j v hj => ?_⟩) (by rw [hcl];simp;omega) (one_str s) ?_;(cases j with | zero => simp at hj;subst hj;exact hc3.out | succ j => simp at hj);intro w3 hg3 hB3 _))
   all_goals
    rw [hsp.out] at hg3;have hb3:=hid (hB3.out _ _ hb.out.drew (Nat.le_refl _));clear hB3;go_wp2_with fail
    go_roundw
    case rel => exact ⟨k + 1,by go_num,by omega,hg3,hb3⟩
    case measure => simp [intOf];omega
  ·obtain rfl:k = n:=by omega
   have hge:¬ ((k:Int) < (k:Int)):=by omega
   have hcl:=outCells_len (l:=l) (n:=k) (by rw [hn'.out];exact Nat.le_refl _);have htk:l.take k = l:=List.take_of_length_le (by rw [hn'.out];exact Nat.le_refl _)
   have hz:outCells l k = l.map strC:=by unfold outCells;rw [hn'.out,Nat.sub_self,List.replicate_zero,List.append_nil]
   rw [htk,hz] at hg;rw [hz] at hcl;have hf:=hid (own_sl (own_row hg.out (Nat.le_refl _) hcl (by unfold maxLen;omega)));go_wp2_with fail;go_ret2;exact ⟨⟨_,rfl,by unfold Strs;rw [hn'.out];exact hf.out⟩,hb.out⟩
theorem str_tail (X Y:List UInt8) {S:ByteArray} (h:S = str (X ++ Y)):S.extract X.length S.size = str Y:=by
 subst h;have:=rest_str (X ++ Y) X.length;unfold rest at this;rw [this,List.drop_left]
theorem decode_any (l:List ByteArray) (w:World) (hl:l.length ≤ 400) (hs:∀ s ∈ l,s.size ≤ 64 ∧ Wd.validU s = true) :
  Calls Tryz.prog 157 #[.string (str (encDict l)),.int .i64 (l.length:Nat),.int .i64 64] w fun e w' => (∃ y,e = .returned (.tuple #[y,.int .i64 0]) ∧ Strs w' y l) ∧ Below w.heap.size w w':=by
 obtain ⟨i0,hi,hz0,hz1,hz2⟩:=info_parts infoS;have hok:=words_ok l
 have hmet:=fun k a h => words_met l (k:=k) (a:=a) h
 have hE:encDict l = putL (words l).1.length ++ encW (words l).1 ++ encRuns (words l).2:=rfl
 have hM1:(fun k => (words (l.take k)).1.length) (words l).2.length = (words l).1.length:=by simp only;rw [hok.len,List.take_length]
 obtain ⟨M,hM⟩:∃ M:Nat → Nat,M = fun k => (words (l.take k)).1.length:=⟨_,rfl⟩
 have hM0:M 0 = 0:=by rw [hM];rfl
 have hmet2:∀ k a,(words l).2[k]? = some a → a ≤ M k ∧ M (k + 1) = max (M k) (a + 1) ∧ a < (words l).1.length:=by rw [hM];exact hmet
 rw [← hM] at hM1
 have hat:Hid (∀ x ∈ (words l).2,x < W64):=hid (fun x hx => by
  obtain ⟨k,hk⟩:=List.getElem?_of_mem hx;have:=(words_met l hk).2.2;have:=hok.few;unfold W64
  omega)
 have hnd:=hok.nodup;have hlen:=hok.len;have hfew:=hok.few;have hat2:=hok.at_
 have hsz:∀ s ∈ (words l).1,s.size ≤ 64 ∧ Wd.validU s = true:=fun s h => hs s (hok.sub s h)
 rw [hE];clear hM hmet hE hok hs;generalize words l = p at *;obtain ⟨ws,ats⟩:=p;simp only at hnd hlen hfew hat2 hsz hat hmet2 hM1 ⊢;have hel:(encW ws).length ≤ (10 + 64) * ws.length:=encW_len (fun s h => (hsz s h).1);have hel2:(10 + 64) * ws.length ≤ (10 + 64) * 400:=Nat.mul_le_mul_left _ (by omega);have hrl:=encRuns_len ats;have hpl:=putL_length ws.length;have HMay:=hid (fun (W:World) vw va (h1:Strs W vw ws) (h2:Us W va ats) => may_any vw va ws ats M W h1 h2 hnd (by omega) (by omega) (fun s h => by have:=(hsz s h).1;omega) hmet2 hM0 hM1)
 have HPick:=hid (fun (W:World) vw va (h1:Strs W vw ws) (h2:Us W va ats) => pick_any vw va ws l ats W h1 h2 hlen (by omega) (by omega) hat2);have HDec:=hid (fun (W:World) => Rn.decode_any ats W (by omega) hat.out);rw [hlen] at HDec
 have hcwl:IntKind.u64.wrap (l.length:Int) = (l.length:Int):=by rw [IntKind.wrap_u64];omega
 have hd0:(0:Int) ≤ (l.length:Int):=by omega
 have hd1:(l.length:Int) ≤ 4096:=by omega
 obtain ⟨H,hH⟩:∃ H,putL ws.length = H:=⟨_,rfl⟩;obtain ⟨Rr,hRr⟩:∃ R,encRuns ats = R:=⟨_,rfl⟩
 have hdec:=hid (fun k s (h:ws[k]? = some s) => (show H ++ encW ws ++ Rr = (H ++ encW (ws.take k)) ++ (putW s ++ (encW (ws.drop (k + 1)) ++ Rr)) by
  conv => lhs;rw [← List.take_append_drop k ws]
  rw [show encW (ws.take k ++ ws.drop k) = encW (ws.take k) ++ encW (ws.drop k) from List.flatMap_append,encW_drop h]
  simp only [List.append_assoc]))
 have hlens:=hid (fun k s (h:ws[k]? = some s) => (show (encW (ws.take (k + 1))).length = (encW (ws.take k)).length + (putW s).length by rw [encW_take h,List.length_append]));have hNum:=hid (fun (W:World) b (h:RB b (H ++ (encW ws ++ Rr)) W) => (by rw [← hH] at h;exact rb_num h (by unfold W64;omega) (by rw [List.length_append,← hRr];omega):Calls Tryz.prog 144 #[.pointer (some ⟨b,0,none⟩)] W fun e' w' => e' = .returned (.int .u64 (ws.length:Nat)) ∧ RB b (encW ws ++ Rr) w' ∧ Kept (· = b) W w'));rw [hH,hRr];rw [hH] at hpl;rw [hRr] at HDec hrl
 have htl:=hid (fun k => (show (encW (ws.take k)).length ≤ (encW ws).length by
  conv => rhs;rw [← List.take_append_drop k ws]
  rw [show encW (ws.take k ++ ws.drop k) = encW (ws.take k) ++ encW (ws.drop k) from List.flatMap_append,List.length_append]
  omega))
 obtain ⟨S,hS⟩:∃ S,str (H ++ encW ws ++ Rr) = S:=⟨_,rfl⟩;rw [hS]
 have hSz:S.size = H.length + (encW ws).length + Rr.length:=by rw [← hS,str_size,List.length_append,List.length_append]
 have hS':=hid hS;have hSB:Hid (S = str (H ++ (encW ws ++ Rr))):=hid (by rw [← hS,List.append_assoc]);replace hsz:=hid hsz;have hsub:Hid ((S.size:Int) - ((encW ws ++ Rr).length:Nat) = (H.length:Int)):=hid (by rw [hSz,List.length_append];omega)
 have hbL:(encW ws ++ Rr).length ≤ 100000:=by rw [List.length_append];omega
 have hSle:S.size ≤ 100000:=by omega
 have hend:=hid (str_tail (H ++ encW ws) Rr hS.symm);have hendl:Hid ((H ++ encW ws).length = H.length + (encW ws).length):=hid List.length_append;replace hSz:=hid hSz;clear hM0 hM1 hmet2 hat2 hnd hS hH hRr hat;go_enter Tryz.func157,Tryz.ntmps157;go_wp2_with fail;refine (new_any _ _).mono ?_
 rintro e w1 ⟨rfl,hw1⟩;have hB:=hid (show RB w.heap.size (H ++ (encW ws ++ Rr)) w1 by rw [hw1,hSB.out];exact RB.new _ _);have hb:=hid (show Below w.heap.size w w1 by rw [hw1];exact (Below.refl _ _).alloc (Nat.le_refl _) _);have hwl:=lt_of_block hB.out;clear hw1;go_wp2_with fail;refine (hNum.out _ _ hB.out).mono ?_
 rintro e w2 ⟨rfl,hB2,k2⟩;have hb2:=hid (hb.out.trans (k2.to_below (B:=w.heap.size) (by omega) (fun i hi h => by omega)));replace hB2:=hid hB2;have hs2:=k2.size;clear k2 hB hb hNum;go_wp2_with fail;refine (rb_err hB2.out).mono ?_
 rintro e w3 ⟨rfl,rfl⟩;go_wp2_with fail;refine (rb_left hB2.out).mono ?_
 rintro e w3 ⟨rfl,rfl⟩;generalize (encW ws ++ Rr).length = L at *;have hx:=hsub.out;have hcount:decide (l.length < ws.length) = false:=decide_eq_false (by omega);have hcount2:decide ((l.length:Int) < (ws.length:Int)) = false:=decide_eq_false (by omega);go_wp2_with fail;clear hx hcount hcount2
 go_loopw [11,12,47] (fun o t i wr => ∃ k:Nat,i = .int .u64 k ∧ k ≤ ws.length ∧ t = .int .i64 ((H.length:Int) + ((encW (ws.take k)).length:Nat)) ∧ Hid (OwnS wr (w.heap.size + 1) o (ws.take k)) ∧ Hid (Below w.heap.size w wr) ∧ w.heap.size + 1 ≤ wr.heap.size) (fun _ _ i _ => ws.length - (intOf i).toNat)
 case atStart => exact ⟨0,rfl,by omega,by rw [List.take_zero];simp [encW],hid (World.ownsRow_nil _ _ _ _),hb2,by omega⟩
 case round =>
  clear hb2 hB2;obtain ⟨k,rfl,hk,rfl,hO,hb,hwz⟩:=hrel;have htk:=htl.out k
  by_cases hlt:k < ws.length
  ·have hlt':(k:Int) < (ws.length:Nat):=by omega
   have hltN:decide (k < ws.length) = true:=decide_eq_true hlt;obtain ⟨s,hs⟩:=some_at hlt;obtain ⟨h64,hval⟩:=hsz.out s (List.mem_of_getElem? hs);have hll:=hlens.out k s hs;have hSd:=hdec.out k s hs;have HT:=take_str (H ++ encW (ws.take k)) (encW (ws.drop (k + 1)) ++ Rr) s wr (by rw [← hSd,List.length_append,List.length_append];have:=hSz.out;omega) h64 hval;rw [← hSd,hS'.out,List.length_append] at HT;replace HT:=hid HT;have hkn:=hid (take_snoc hs)
   have hkl:(ws.take k).length = k:=by rw [List.length_take];omega
   have hlo:=hid hO.out.lt;have hO2:Hid (wr.ownsRow (w.heap.size + 1) 9 1 _ k ((ws.take k).map strC)):=hid (by have:=hO.out;unfold OwnS at this;rw [hkl] at this;exact this);obtain ⟨a2,c2,rfl⟩:=(own_sl hO2.out).len;replace hll:=hid hll;clear hs hSd hval htk hO
   have hcc:(((H.length + (encW (ws.take k)).length:Nat)):Int) = (H.length:Int) + ((encW (ws.take k)).length:Nat):=by omega
   rw [hcc] at HT;clear hcc;have htk:=htl.out k;generalize (encW (ws.take k)).length = T at *;go_wp2_with fail;refine HT.out.mono ?_
   rintro e w3 ⟨rfl,hb3⟩;have hO3:=hid (own_below hO2.out hb3);have hb4:=hid (hb.out.trans (hb3.mono hb.out.size));have hs3:=hb3.size;clear hb3 hO2 hb HT
   go_wp2_with (at_builtin;refine wpList_append_src (by rfl) _ _ 163 (by rfl) (w.heap.size + 1) 9 i0 (.string ByteArray.empty) 1 16 Tryz.underlying163 hi hz0 hz1 hz2 rfl (by decide) _ k ((ws.take k).map strC) (by rfl) (World.ownsRow.alloc hO3.out _) _ 1 [.string s] (by rfl) rfl (src_new (alloc_new w3 _) _) (one_str _) (by unfold maxLen;omega) (by omega) (by simp;omega) ?_;intro v5 w5 hown hgrow)
   have hOf:Hid (OwnS w5 (w.heap.size + 1) v5 (ws.take (k + 1))):=hid (by unfold OwnS;rw [hkn.out,List.map_append,List.length_append,hkl];exact hown);have hbf:=hid ((hb4.out.alloc hb4.out.size _).grown hgrow (hb4.out.alloc hb4.out.size _).size (fun j e => by have:=(hlo.out j e).1;omega))
   have hwf:w.heap.size + 1 ≤ w5.heap.size:=by have:=hgrow.size;simp at this;omega
   clear hown hgrow;go_wp2_with fail
   go_roundw
   case rel => exact ⟨k + 1,by go_num,by omega,by rw [hll.out];go_num,hOf,hbf,hwf⟩
   case measure => simp [intOf];omega
  ·obtain rfl:k = ws.length:=by omega
   have hge:¬ ((ws.length:Int) < (ws.length:Nat)):=by omega
   have hge2:decide (ws.length < ws.length) = false:=decide_eq_false (by omega);rw [List.take_length] at hO htk ⊢;have hO2:=hid (own_sl hO.out);obtain ⟨a2,c2,rfl⟩:=hO2.out.len;have e1:=hend.out;rw [hendl.out] at e1;have e2:=hSz.out;obtain ⟨T,hT⟩:∃ T,H.length + (encW ws).length = T:=⟨_,rfl⟩
   have hTi:(H.length:Int) + ((encW ws).length:Nat) = (T:Int):=by omega
   rw [hT] at e1;rw [hTi]
   have b1:(0:Int) ≤ (T:Int):=by omega
   have b2:(T:Int) ≤ (S.size:Nat):=by omega
   have b3:T ≤ S.size:=by omega
   clear hT hTi e2;go_wp2_with fail;refine (HDec.out _).mono ?_
   rintro e w3 ⟨⟨y,rfl,hy⟩,hb3⟩;have hO3:=hid (hO2.out.below hb3);have hb4:=hid (hb.out.trans (hb3.mono hb.out.size));replace hy:=hid hy;clear hb3 e1;go_wp2_with fail;refine (HMay.out _ _ _ hO3.out hy.out).mono ?_
   rintro e w4 ⟨rfl,hb5⟩;replace hO3:=hid (hO3.out.below hb5);replace hy:=hid (hy.out.below hb5);replace hb4:=hid (hb4.out.trans (hb5.mono hb4.out.size));clear hb5;go_wp2_with fail;refine (HPick.out _ _ _ hO3.out hy.out).mono ?_
   rintro e w5 ⟨⟨z,rfl,hz⟩,hb6⟩;go_wp2_with fail;go_ret2;exact ⟨⟨_,rfl,hz⟩,hb4.out.trans (hb6.mono hb4.out.size)⟩
end Dc
end
section
open Go.RowKit Go.Shelf
namespace Og
open Mem Pk Ck Rn
def partL (l:List UInt8):List UInt8:=putL l.length ++ l
theorem partL_len (l:List UInt8):(partL l).length ≤ 10 + l.length:=by
 unfold partL;rw [List.length_append];have:=putL_length l.length;omega
theorem part_any (l:List UInt8) (w:World) (hs:l.length ≤ 100000) :
  Calls Tryz.prog 94 #[.string (str l)] w fun e w' => e = .returned (.string (str (partL l))) ∧ Below w.heap.size w w':=by
 have hz:(str l).size = l.length:=str_size l;have hE:Hid (str (putL l.length) ++ str l = str (partL l)):=hid (str_append _ _);obtain ⟨s,hS⟩:∃ s,str l = s:=⟨_,rfl⟩;rw [hS] at hz hE ⊢;obtain ⟨n,hn⟩:∃ n,l.length = n:=⟨_,rfl⟩;rw [hn] at hz hs hE;have HP:=hid (fun W => put_any n W (by unfold W64;omega))
 have hcw:IntKind.u64.wrap (n:Int) = (n:Int):=by rw [IntKind.wrap_u64];omega
 have hz2:(str (putL n)).size ≤ 10:=by rw [str_size];exact putL_length _
 clear hS hn;go_enter Tryz.func94,Tryz.ntmps94;go_wp2_with fail;refine (HP.out _).mono ?_
 rintro e w1 ⟨rfl,hb⟩;go_wp2_with fail;go_ret;exact ⟨by rw [← hE.out];rfl,hb⟩
theorem must_ok (w:World):Calls Tryz.prog 160 #[.int .i64 0] w fun e w' => e = .returned (.tuple #[]) ∧ w = w':=by
 go_enter Tryz.func160,Tryz.ntmps160;go_wp2_with fail
 go_end0
 exact ⟨rfl,rfl⟩
theorem got_ints (v:Value) (w:World):Calls Tryz.prog 152 #[v,.int .i64 0] w fun e w' => e = .returned v ∧ w = w':=by
 go_enter Tryz.func152,Tryz.ntmps152;go_wp2_with fail;refine (must_ok _).mono ?_
 rintro e w1 ⟨rfl,rfl⟩;go_wp2_with fail;go_ret;exact ⟨rfl,rfl⟩
theorem got_us (v:Value) (w:World):Calls Tryz.prog 154 #[v,.int .i64 0] w fun e w' => e = .returned v ∧ w = w':=by
 go_enter Tryz.func154,Tryz.ntmps154;go_wp2_with fail;refine (must_ok _).mono ?_
 rintro e w1 ⟨rfl,rfl⟩;go_wp2_with fail;go_ret;exact ⟨rfl,rfl⟩
theorem got_strs (v:Value) (w:World):Calls Tryz.prog 156 #[v,.int .i64 0] w fun e w' => e = .returned v ∧ w = w':=by
 go_enter Tryz.func156,Tryz.ntmps156;go_wp2_with fail;refine (must_ok _).mono ?_
 rintro e w1 ⟨rfl,rfl⟩;go_wp2_with fail;go_ret;exact ⟨rfl,rfl⟩
theorem got_flts (v:Value) (w:World):Calls Tryz.prog 158 #[v,.int .i64 0] w fun e w' => e = .returned v ∧ w = w':=by
 go_enter Tryz.func158,Tryz.ntmps158;go_wp2_with fail;refine (must_ok _).mono ?_
 rintro e w1 ⟨rfl,rfl⟩;go_wp2_with fail;go_ret;exact ⟨rfl,rfl⟩
theorem got_bools (v:Value) (w:World):Calls Tryz.prog 210 #[v,.int .i64 0] w fun e w' => e = .returned v ∧ w = w':=by
 go_enter Tryz.func210,Tryz.ntmps210;go_wp2_with fail;refine (must_ok _).mono ?_
 rintro e w1 ⟨rfl,rfl⟩;go_wp2_with fail;go_ret;exact ⟨rfl,rfl⟩
theorem q_rleft {b:Nat} {t:List UInt8} {W:World} (h:RB b t W) (n:Nat) :
  Calls Tryz.prog 187 #[.pointer (some ⟨b,0,none⟩)] (W.drewN n) fun e' w' => e' = .returned (.int .i64 (t.length:Int)) ∧ ∃ m,w' = W.drewN m:=
 (rb_left (w:=W.drewN n) h).mono fun _ _ ⟨h1,h2⟩ => ⟨h1,n,h2.symm⟩
theorem Cut_ok (x y:List UInt8) (w:World) (hl:x.length + y.length ≤ 100000) :
  Calls Tryz.prog 202 #[.string (str (partL x ++ y))] w fun e w' => e = .returned (.tuple #[.string (str x),.string (str y),.int .i64 0]) ∧ Below w.heap.size w w':=by
 have hS0:str (partL x ++ y) = str (putL x.length ++ (x ++ y)):=by unfold partL;rw [List.append_assoc]
 have hend:=Dc.str_tail (partL x) y rfl
 have hsz:(str (partL x ++ y)).size = (partL x).length + y.length:=by rw [str_size,List.length_append]
 have hpl:=partL_len x;obtain ⟨S,hS⟩:∃ S,str (partL x ++ y) = S:=⟨_,rfl⟩;rw [hS] at hS0 hend hsz ⊢
 have hn0:(0:Int) ≤ ((partL x).length:Int):=by omega
 generalize (partL x).length = T at *
 have hT1:(T:Int) ≤ (S.size:Nat):=by omega
 have hT2:T ≤ S.size:=by omega
 have hsub:(S.size:Int) - (y.length:Nat) = (T:Int):=by omega
 have hsub2:IntKind.i64.wrap (T:Int) = (T:Int):=IntWalk.i64_in _ (by omega);have hq1:decide ((x ++ y).length < x.length) = false:=decide_eq_false (by rw [List.length_append];omega);have hq2:decide (((x ++ y).length:Int) < (x.length:Nat)) = false:=decide_eq_false (by rw [List.length_append];omega);have hq4:IntKind.i64.wrap (x.length:Int) = (x.length:Int):=IntWalk.i64_in _ (by omega)
 have hL:(x ++ y).length ≤ 100000:=by rw [List.length_append];omega
 have hq3:IntKind.u64.wrap ((x ++ y).length:Int) = ((x ++ y).length:Int):=by rw [IntKind.wrap_u64];omega
 have hxl:x.length ≤ 100000:=by omega
 have hyl:y.length ≤ 100000:=by omega
 replace hsz:=hid hsz;replace hS0:=hid hS0;replace hsub:=hid hsub;replace hsub2:=hid hsub2;have hend2:=hid hend;clear hS hend hpl hl;go_enter Tryz.func202,Tryz.ntmps202;go_wp2_with fail;refine (new_any _ _).mono ?_
 rintro e w1 ⟨rfl,hw1⟩;have hB:=hid (show RB w.heap.size (putL x.length ++ (x ++ y)) w1 by rw [hw1,hS0.out];exact RB.new _ _);have hb:=hid (show Below w.heap.size w w1 by rw [hw1];exact (Below.refl _ _).alloc (Nat.le_refl _) _);have hwl:=lt_of_block hB.out;clear hw1;go_wp2_with fail;refine (rb_num hB.out (by unfold W64;omega) (by omega)).mono ?_
 rintro e w2 ⟨rfl,hB2,k2⟩;have hb2:=hid (hb.out.trans (k2.to_below (B:=w.heap.size) (by omega) (fun i hi h => by omega)));replace hB2:=hid hB2;have hs2:=k2.size;clear k2 hB hb;generalize hLL:(x ++ y).length = L at *;replace hLL:=hid hLL;go_wp2_with fail;refine (rb_err hB2.out).mono ?_
 rintro e w3 ⟨rfl,rfl⟩;go_wp2_with fail;refine (rb_left hB2.out).mono ?_
 rintro e w3 ⟨rfl,rfl⟩;rw [hLL.out];go_wp2_with fail;refine (rb_take hB2.out).mono ?_
 rintro e w4 ⟨rfl,hB4,k4⟩;have hb4:=hid (hb2.out.trans (k4.to_below (B:=w.heap.size) (by omega) (fun i hi h => by omega)));replace hB4:=hid hB4;clear k4 hB2 hb2;have HQ:=hid (fun n => q_rleft hB4.out n);have h1:=hsub.out;have h2:=hsub2.out;go_wp2_with fail;go_quiet ((go_at_call 187;exact HQ.out _));go_wp2_with fail
 go_ret3
 exact ⟨by rw [← hend2.out];rfl,bel_drewN hb4.out _⟩
theorem cut_ok (x y:List UInt8) (w:World) (hl:x.length + y.length ≤ 100000) :
  Calls Tryz.prog 151 #[.string (str (partL x ++ y))] w fun e w' => e = .returned (.tuple #[.string (str x),.string (str y)]) ∧ Below w.heap.size w w':=by
 have H:=hid (Cut_ok x y w hl);generalize str (partL x ++ y) = S at *;go_enter Tryz.func151,Tryz.ntmps151;go_wp2_with fail;refine H.out.mono ?_
 rintro e w1 ⟨rfl,hb⟩;go_wp2_with fail;refine (must_ok _).mono ?_
 rintro e w2 ⟨rfl,rfl⟩;go_wp2_with fail;go_ret2;exact ⟨rfl,hb⟩
theorem count_ok (n:Nat) (w:World) (hn:n ≤ 2000) :
  Calls Tryz.prog 150 #[.string (str (putL n))] w fun e w' => e = .returned (.int .i64 n) ∧ Below w.heap.size w w':=by
 have hS:Hid (str (putL n) = str (putL n ++ [])):=hid (by rw [List.append_nil]);have hd:decide ((2000:Int) < (n:Int)) = false:=decide_eq_false (by omega);have hq4:IntKind.i64.wrap (n:Int) = (n:Int):=IntWalk.i64_in _ (by omega);obtain ⟨S,hS2⟩:∃ S,str (putL n) = S:=⟨_,rfl⟩;rw [hS2] at hS ⊢;clear hS2;go_enter Tryz.func150,Tryz.ntmps150;go_wp2_with fail;refine (new_any _ _).mono ?_
 rintro e w1 ⟨rfl,hw1⟩;have hB:=hid (show RB w.heap.size (putL n ++ []) w1 by rw [hw1,hS.out];exact RB.new _ _);have hb:=hid (show Below w.heap.size w w1 by rw [hw1];exact (Below.refl _ _).alloc (Nat.le_refl _) _);have hwl:=lt_of_block hB.out;clear hw1;go_wp2_with fail;refine (rb_num hB.out (by unfold W64;omega) (by simp)).mono ?_
 rintro e w2 ⟨rfl,hB2,k2⟩;have hb2:=hid (hb.out.trans (k2.to_below (B:=w.heap.size) (by omega) (fun i hi h => by omega)));replace hB2:=hid hB2;clear k2 hB hb;go_wp2_with fail;refine (rb_done hB2.out).mono ?_
 rintro e w3 ⟨rfl,rfl⟩;go_wp2_with fail;refine (must_ok _).mono ?_
 rintro e w3 ⟨rfl,rfl⟩;go_wp2_with fail;go_ret;exact ⟨rfl,hb2.out⟩
theorem caught_idle (p:Addr) (w:World) :
  CallsD Tryz.prog 201 #[.pointer (some p)] .returning w fun e u' w' => e = .returned (.tuple #[]) ∧ u' = .returning ∧ w' = w:=by
 refine callsD_of_wpS Tryz.func201 rfl fun c₀ cs hu => ?_
 apply wpS_seq
 apply wpS_region
 simp [wpOpsS,go_sem,recoverD,hu,Tryz.ntmps201,Exit.thenS]
 apply wpS_seq
 apply wpS_region
 simp [wpOpsS,go_sem,recoverD,hu,Exit.thenS];refine wpS_cond (t:=false) (by simp [Act.eval,Array.replicate]) ?_
 simp only [Bool.false_eq_true,if_false];refine wpS_of_wp (wp_skip ?_)
 cases c₀
 simp_all [bodyPostS,results,Tryz.results201]
theorem guard_results (tmps:Array Value) (w:World) (B:Nat) (h:tmps.getD 2 undef = .pointer (some ⟨B,0,none⟩)) (hw:w.heap[B]? = some (.cells #[.int .i64 0] 37 (0,0))) :
  (results Tryz.f148 tmps).run Tryz.prog w = .ok (.int .i64 0) w:=by
 have hr:Tryz.f148.results = #[.cell 2 37]:=rfl;have c0:w.cell? ⟨B,0,none⟩ = some (.int .i64 0):=cell_at hw 0;simp only [results,hr];simp only [Array.getD_eq_getD_getElem?] at h;simp [Sem.run_bind,Result.andThen,h,go_sem];simp [c0]
theorem guard_ok (f:Nat) (cap:Array Value) (w:World) (R:World → Prop)
  (hE:∀ w1,(callFunc f cap).run Tryz.prog w1 = .ok (.enter f cap) w1)
  (hF:∀ w1,Below w.heap.size w w1 → w.heap.size < w1.heap.size → Calls Tryz.prog f cap w1 fun e w' => e = .returned (.tuple #[]) ∧ w'.heap[w.heap.size]? = w1.heap[w.heap.size]? ∧ R w') :
  Calls Tryz.prog 148 #[.func (.func f) #[] cap] w fun e w' => e = .returned (.int .i64 0) ∧ ∃ w2,R w2 ∧ w' = w2.setCell ⟨w.heap.size,0,none⟩ (.int .i64 0):=by
 have hmf:∀ (fn:Fn) (first cap:Array Value) (w:World),(Instr.makeFunc fn first cap).run Tryz.prog w = .ok (.func fn first cap) w:=fun _ _ _ _ => rfl
 have HE:=hid hE;have HF:=hid hF;clear hE hF
 go_enter_defers Tryz.func148,Tryz.ntmps148
 have he:=HE.out
 go_wp2_with ((refine (HF.out _ ((Below.refl _ _).alloc (Nat.le_refl _) _) (by simp)).mono ?_);rintro e w2 ⟨rfl,k0,k1⟩;have k2:w2.heap[w.heap.size]? = some (.cells #[.int .i64 0] 37 (0,0)):=k0.trans (alloc_new w _);have c0:w2.cell? ⟨w.heap.size,0,none⟩ = some (.int .i64 0):=cell_at k2 0;have f0:w2.frozen? ⟨w.heap.size,0,none⟩ = false:=free_at k2 0;replace k2:=hid k2;replace k1:=hid k1;clear k0)
 refine leaves_cons (f:=201) (args:=#[.pointer (some ⟨w.heap.size,0,none⟩)]) (by simp) (by simp [go_sem]) ?_
 refine (caught_idle _ _).mono ?_
 rintro e u' w'' ⟨rfl,rfl,rfl⟩;exact ⟨_,guard_results _ _ w.heap.size rfl ((set_at k2.out 0 _).trans rfl),rfl,w2,k1.out,rfl⟩
end Og
end
section
open Go.RowKit
namespace Fl
theorem S_pow:S = 2 ^ 63:=by decide
theorem sign_add {r:Nat} (h:r < S):S ||| r = S + r ∧ r ^^^ S = S + r ∧ (S + r) ^^^ S = r:=by
 rw [S_pow] at *
 have o:2 ^ 63 * 1 + r = 2 ^ 63 * 1 ||| r:=Nat.two_pow_add_eq_or_of_lt h 1
 rw [Nat.mul_one] at o
 have x:r ^^^ 2 ^ 63 = 2 ^ 63 + r:=by
  apply Nat.eq_of_testBit_eq
  intro i;have t:=Nat.testBit_two_pow_mul_add 1 h i;rw [Nat.mul_one] at t;rw [t,Nat.testBit_xor,Nat.testBit_two_pow]
  by_cases hi:i < 63
  ·rw [if_pos hi]
   have:decide (63 = i) = false:=decide_eq_false (by omega);rw [this,Bool.xor_false]
  ·rw [if_neg hi,Nat.testBit_lt_two_pow (Nat.lt_of_lt_of_le h (Nat.pow_le_pow_right (by decide) (by omega))),Bool.false_xor]
   by_cases h63:63 = i
   ·subst h63;simp
   ·have e:i - 63 ≠ 0:=by omega
    have:decide (63 = i) = false:=decide_eq_false h63;rw [this]
    symm
    exact Nat.testBit_lt_two_pow (Nat.one_lt_two_pow e)
 refine ⟨o.symm,x,?_⟩
 rw [← x,Nat.xor_assoc,Nat.xor_self,Nat.xor_zero]
theorem neg_wd (s:Bool) {r:Nat} (h:r < S):Op.negFloat .f64 (wd s r) = wd (!s) r:=by
 have h2:2 ^ (FloatKind.f64.format.exponentBits + FloatKind.f64.format.fractionBits) = S:=by decide
 obtain ⟨_,e1,e2⟩:=sign_add h;unfold Op.negFloat;rw [h2]
 cases s
 ·rw [wd_false];rw [e1];rfl
 ·exact e2
theorem run_neg (s:Bool) {r:Nat} (h:r < S) (w:World):(Op.unary .neg (.float .f64 (wd s r))).run Tryz.prog w = .ok (.float .f64 (wd (!s) r)) w:=by
 rw [← neg_wd s h]
 rfl
theorem or64 {a b:Nat} (ha:a < 18446744073709551616) (hb:b < 18446744073709551616):bits .or .u64 (a:Int) (b:Int) = ((a ||| b:Nat):Int):=u64_or_nat a b ha hb
theorem and_low {M:Nat} (h:M < 18446744073709551616):bits .and .u64 (M:Int) 4503599627370495 = ((M % B:Nat):Int):=by
 have:=u64_and_nat M 4503599627370495 h (by decide);rw [show (4503599627370495:Nat) = 2 ^ 52 - 1 from by decide,Nat.and_two_pow_sub_one_eq_mod] at this;exact this
theorem join52 {E x:Nat} (hx:x < B):E * B ||| x = E * B + x:=by
 rw [B_pow] at *;rw [Nat.mul_comm];exact (Nat.two_pow_add_eq_or_of_lt hx E).symm
theorem I_lt_S:I < S:=by decide
theorem bits_plain (sv:Nat) (s:Bool) (hsv:sv = if s then S else 0) {E M:Nat} (hE:E ≤ 2046) (h1:B ≤ M) (h2:M < 2 * B) :
  bits .or .u64 (bits .or .u64 (sv:Int) ((E:Int) * 4503599627370496)) (bits .and .u64 (M:Int) 4503599627370495) = ((wd s (E * B + (M - B)):Nat):Int):=by
 have hB:B = 4503599627370496:=rfl
 have hI:I = 2047 * B:=by decide
 have hS:S = 2048 * B:=by decide
 have hEB:E * B ≤ 2046 * B:=Nat.mul_le_mul_right _ hE
 have e1:(E:Int) * 4503599627370496 = ((E * B:Nat):Int):=by rw [Int.natCast_mul,hB];rfl
 have e2:M % B = M - B:=by rw [Nat.mod_eq_sub_mod h1,Nat.mod_eq_of_lt (by omega)]
 have hx:M - B < B:=by omega
 rw [and_low (by omega),e1,e2,or64 (by subst hsv;split <;> omega) (by omega)]
 have l1:sv ||| E * B < 18446744073709551616:=Nat.or_lt_two_pow (n:=64) (by subst hsv;split <;> omega) (by omega)
 rw [or64 l1 (by omega),Nat.or_assoc,join52 hx];subst hsv
 cases s
 ·rw [if_neg (by decide),Nat.zero_or,wd_false]
 ·rw [if_pos rfl,(sign_add (by omega)).1];rfl
theorem bits_small (sv:Nat) (s:Bool) (hsv:sv = if s then S else 0) {r:Nat} (h:r < S):bits .or .u64 (sv:Int) (r:Int) = ((wd s r:Nat):Int):=by
 have hS:S = 9223372036854775808:=rfl;rw [or64 (by subst hsv;split <;> omega) (by omega)];subst hsv
 cases s
 ·rw [if_neg (by decide),Nat.zero_or,wd_false]
 ·rw [if_pos rfl,(sign_add h).1];rfl
theorem run_to_u64 {a n:Nat} (h:(Ieee.double.read a).toInt .zero = some (n:Int)) (hn:n < 18446744073709551616) (w:World) :
  (convert 47 120 (.float .f64 a)).run Tryz.prog w = .ok (.int .u64 n) w:=by
 refine run_convert_float_int w 47 120 .f64 .u64 a n (by rw [Tryz.underlying47];rfl) Tryz.underlying120 ?_
 unfold floatToIntVal;rw [show FloatKind.f64.decode a = Ieee.double.read a from rfl,h];have h1:IntKind.u64.min = 0:=rfl;have h2:IntKind.u64.max = 18446744073709551615:=rfl;simp only;rw [if_pos (by omega)]
theorem norm_whole {m:Nat} (h0:0 < m) (hm:m < 2 * B):R m (1126 - m.log2) = R (m * 2 ^ (52 - m.log2)) 1074 ∧ R (m * 2 ^ (52 - m.log2)) 1074 < I:=by
 obtain ⟨n1,n2,n3⟩:=norm_range h0 hm;have e:=R_move (m:=m) (a:=52 - m.log2) (j:=1074) n2;rw [show 52 - m.log2 + 1074 = 1126 - m.log2 from by omega] at e;exact ⟨e.symm,by rw [e];exact fin_of h0 hm (by omega)⟩
theorem bits_nan (b:Nat) (w:World) (hb:b < 2 * S) (h:isNan b = true) :
  Calls Tryz.prog 136 #[.float .f64 b] w fun e w' => e = .returned (.int .u64 (nanU:Nat)) ∧ Below w.heap.size w w':=by
 have ho:FloatKind.f64.format.order b b = none:=order_nan_left b b hb h;go_enter Tryz.func136,Tryz.ntmps136;go_wp2_with fail;refine (minus_nan b _ hb h).mono ?_
 rintro e w' ⟨rfl,rfl⟩;go_wp2_with fail;go_ret;exact ⟨rfl,Below.refl _ _⟩
theorem ret_u64 {a b:Int} (h:a = b):Ending.returned (.int .u64 a) = .returned (.int .u64 b):=by rw [h]
theorem eq_self {r:Nat} (h:r ≤ I):FloatKind.f64.format.order (wd false r) (wd false r) = some .eq:=by
 rw [fo_num false false h h];simp
theorem bits_zero (s:Bool) (w:World) :
  Calls Tryz.prog 136 #[.float .f64 (wd s 0)] w fun e w' => e = .returned (.int .u64 (wd s 0:Nat)) ∧ Below w.heap.size w w':=by
 have ho:=fo_zero false;have he:=eq_self (r:=0) (by decide)
 cases s
 ·go_enter Tryz.func136,Tryz.ntmps136
  go_wp2_with fail;refine (minus_num false 0 _ (by decide)).mono ?_
  rintro e w' ⟨rfl,rfl⟩;go_wp2_with fail;go_ret;exact ⟨rfl,Below.refl _ _⟩
 ·have hn:=run_neg true (r:=0) (by decide)
  go_enter Tryz.func136,Tryz.ntmps136;go_wp2_with fail;refine (minus_num true 0 _ (by decide)).mono ?_
  rintro e w' ⟨rfl,rfl⟩;go_wp2_with fail;go_ret;exact ⟨rfl,Below.refl _ _⟩
theorem bits_inf (s:Bool) (w:World) :
  Calls Tryz.prog 136 #[.float .f64 (wd s I)] w fun e w' => e = .returned (.int .u64 (wd s I:Nat)) ∧ Below w.heap.size w w':=by
 have he:=eq_self (r:=I) (Nat.le_refl _);have ho:FloatKind.f64.format.order (wd false I) 0 = some .gt:=fo_pos (by decide) (Nat.le_refl _);have hd:=run_mul (a:=wd false I) (b:=4611686018427387904) (r:=wd false I) (by decide +kernel);have HZ:=hid (bits_small (if s then S else 0) s rfl I_lt_S)
 cases s
 ·go_enter Tryz.func136,Tryz.ntmps136
  go_wp2_with fail;refine (minus_num false I _ (Nat.le_refl _)).mono ?_
  rintro e w' ⟨rfl,rfl⟩;go_wp2_with fail;go_ret;exact ⟨by rw [← HZ.out];rfl,Below.refl _ _⟩
 ·have hn:=run_neg true (r:=I) I_lt_S
  go_enter Tryz.func136,Tryz.ntmps136;go_wp2_with fail;refine (minus_num true I _ (Nat.le_refl _)).mono ?_
  rintro e w' ⟨rfl,rfl⟩;go_wp2_with fail;go_ret;exact ⟨by rw [← HZ.out];rfl,Below.refl _ _⟩
theorem shr_small {m L j:Nat} (hL:L ≤ 52) (h:L + j < 52):m * 2 ^ (52 - L) / 2 ^ (52 - L - j) = m * 2 ^ j:=by
 rw [show 52 - L = j + (52 - L - j) from by omega,Nat.pow_add,← Nat.mul_assoc,show j + (52 - L - j) - j = 52 - L - j from by omega,Nat.mul_div_cancel _ (Nat.two_pow_pos _)]
theorem bits_fin (s:Bool) (r:Nat) (w:World) (h0:0 < r) (hr:r < I) :
  Calls Tryz.prog 136 #[.float .f64 (wd s r)] w fun e w' => e = .returned (.int .u64 (wd s r:Nat)) ∧ Below w.heap.size w w':=by
 have hself:=R_self r;have hm0:=mg_pos h0;have hm:=mg_lt r;have hlog:=log2_of_fin h0 hr;generalize mg r = m at *;generalize pl r = j at *;subst hself;obtain ⟨n1,n2,n3⟩:=norm_range hm0 hm;have he:=eq_self (Nat.le_of_lt hr);have ho:FloatKind.f64.format.order (wd false (R m j)) 0 = some .gt:=fo_pos h0 (Nat.le_of_lt hr)
 have hd:=run_mul (a:=wd false (R m j)) (b:=4611686018427387904) (r:=wd false (min (R m (j + 1)) I)) (by
  have:=mul_pow false (m:=m) (j:=j) (i:=1075) hm hr (by decide +kernel) (by omega);rw [show j + 1075 - 1074 = j + 1 from by omega] at this
  rw [show 4611686018427387904 = R 1 1075 from by decide +kernel];exact this)
 have hlt:FloatKind.f64.format.order (wd false (R m j)) (wd false (min (R m (j + 1)) I)) = some .lt:=by
  rw [wd_false,wd_false];refine ord_lt (Nat.min_le_right _ _) ?_
  have h1:R m j < R m (j + 1):=by
   have a:=@R_le m (j + 1) m j hm hm
   have b:¬ m * 2 ^ (j + 1) ≤ m * 2 ^ j:=by
    rw [Nat.pow_succ,← Nat.mul_assoc];have:=Nat.mul_pos hm0 (Nat.two_pow_pos j);omega
   omega
  omega
 obtain ⟨w1,w2⟩:=norm_whole hm0 hm
 have hg:=run_mul (a:=R m (1074 - m.log2)) (b:=4841369599423283200) (r:=R m (1126 - m.log2)) (by
  have:=mul_pow false (m:=m) (j:=1074 - m.log2) (i:=1126) hm (fin_of hm0 hm (by omega)) (by decide +kernel) (by omega);rw [show 1074 - m.log2 + 1126 - 1074 = 1126 - m.log2 from by omega,wd_false,Nat.min_eq_left (by rw [w1];exact Nat.le_of_lt w2),wd_false] at this
  rw [show 4841369599423283200 = R 1 1126 from by decide +kernel];exact this)
 have hB:B = 4503599627370496:=rfl;have hc:=run_to_u64 (a:=R m (1126 - m.log2)) (n:=m * 2 ^ (52 - m.log2)) (by rw [w1];exact to_whole n2 w2) (by omega);have hsp:=hid (fun w => split_any m j w hm0 hm hlog);have HRS:Hid (R m j < S):=hid (by have:=I_lt_S;omega)
 have hnf:=fun w => run_neg true HRS.out w
 have HM:=hid (fun s => minus_num s (R m j) w (Nat.le_of_lt hr))
 by_cases hpl:52 ≤ m.log2 + j
 ·have HF:=hid (bits_plain (if s then S else 0) s rfl (E:=m.log2 + j - 51) (M:=m * 2 ^ (52 - m.log2)) (by omega) n1 n2)
  have HR:=hid (show R m j = (m.log2 + j - 51) * B + (m * 2 ^ (52 - m.log2) - B) by
   unfold R;rw [if_neg (by omega),if_neg (by omega),show m.log2 + j - 51 = (m.log2 + j - 52) + 1 from by omega,Nat.succ_mul]
   omega)
  have HE:=hid (show (m.log2:Int) + j - 1074 + 1023 = ((m.log2 + j - 51:Nat):Int) by omega);generalize hQ:wd false (min (R m (j + 1)) I) = Q at *;clear hQ w1 w2;generalize m * 2 ^ (52 - m.log2) = M at *;generalize R m (1074 - m.log2) = G at *;generalize R m (1126 - m.log2) = G2 at *;generalize R m j = r at *;generalize m.log2 = L at *;have hMl:M < 9007199254740992:=n2
  cases s
  ·go_enter Tryz.func136,Tryz.ntmps136
   go_wp2_with fail;refine (HM.out false).mono ?_
   rintro e w' ⟨rfl,rfl⟩;go_wp2_with fail;refine (hsp.out _).mono ?_
   rintro e w' ⟨rfl,hb⟩;go_wp2_with fail;go_ret;refine ⟨ret_u64 ?_,hb⟩
   rw [HE.out,HR.out];exact HF.out
  ·go_enter Tryz.func136,Tryz.ntmps136
   go_wp2_with fail;refine (HM.out true).mono ?_
   rintro e w' ⟨rfl,rfl⟩;go_wp2_with fail;refine (hsp.out _).mono ?_
   rintro e w' ⟨rfl,hb⟩;go_wp2_with fail;go_ret;refine ⟨ret_u64 ?_,hb⟩
   rw [HE.out,HR.out];exact HF.out
 ·have HF:=hid (bits_small (if s then S else 0) s rfl (r:=R m j) HRS.out)
  have HR:=hid (show R m j = m * 2 ^ (52 - m.log2) / 2 ^ (52 - m.log2 - j) by
   rw [shr_small n3 (by omega)];unfold R
   rw [if_neg (by omega),if_pos (by omega)])
  have hc1:(m.log2:Int) + j - 1074 + 1023 ≤ 0:=by omega
  have HSH:=hid (show ((m * 2 ^ (52 - m.log2):Nat):Int) / 2 ^ (1 - ((m.log2:Int) + j - 1074) - 1023).toNat = ((R m j:Nat):Int) by
   rw [HR.out,show (1 - ((m.log2:Int) + j - 1074) - 1023).toNat = 52 - m.log2 - j from by omega,Int.natCast_ediv _ (2 ^ (52 - m.log2 - j))]
   congr 1)
  generalize hQ:wd false (min (R m (j + 1)) I) = Q at *;clear hQ w1 w2;generalize m * 2 ^ (52 - m.log2) = M at *;generalize R m (1074 - m.log2) = G at *;generalize R m (1126 - m.log2) = G2 at *;generalize R m j = r at *;generalize m.log2 = L at *;have hMl:M < 9007199254740992:=n2
  cases s
  ·go_enter Tryz.func136,Tryz.ntmps136
   go_wp2_with fail;refine (HM.out false).mono ?_
   rintro e w' ⟨rfl,rfl⟩;go_wp2_with fail;refine (hsp.out _).mono ?_
   rintro e w' ⟨rfl,hb⟩;go_wp2_with fail;go_ret;refine ⟨ret_u64 ?_,hb⟩
   rw [HSH.out];exact HF.out
  ·go_enter Tryz.func136,Tryz.ntmps136
   go_wp2_with fail;refine (HM.out true).mono ?_
   rintro e w' ⟨rfl,rfl⟩;go_wp2_with fail;refine (hsp.out _).mono ?_
   rintro e w' ⟨rfl,hb⟩;go_wp2_with fail;go_ret;refine ⟨ret_u64 ?_,hb⟩
   rw [HSH.out];exact HF.out
def canon (b:Nat):Nat:=if isNan b then nanU else b
theorem bits_any (b:Nat) (w:World) (hb:b < 2 * S) :
  Calls Tryz.prog 136 #[.float .f64 b] w fun e w' => e = .returned (.int .u64 (canon b:Nat)) ∧ Below w.heap.size w w':=by
 unfold canon
 by_cases h:isNan b = true
 ·rw [if_pos h];exact bits_nan b w hb h
 ·rw [if_neg h]
  have hr:b % S ≤ I:=by unfold isNan at h;simpa using h
  rw [wd_of b hb];generalize b % S = r at *;generalize neg b = s
  rcases Nat.eq_zero_or_pos r with h0 | h0
  ·subst h0;exact bits_zero s w
  ·rcases Nat.lt_or_ge r I with h1 | h1
   ·exact bits_fin s r w h0 h1
   ·obtain rfl:r = I:=by omega
    exact bits_inf s w
theorem whole_fin {m:Nat} (hm:m < 2 * B):R m 1074 < I:=by
 by_cases h0:m = 0
 ·rw [h0,R_zero];decide
 ·refine fin_of (by omega) hm ?_
  have:=(norm_range (by omega) hm).2.2;omega
theorem run_to_float {m:Nat} (hm:m < 2 * B) (w:World):(convert 120 47 (.int .u64 m)).run Tryz.prog w = .ok (.float .f64 (R m 1074)) w:=by
 have h:=of_whole hm (whole_fin hm)
 have e:FloatKind.f64.nearest (m:Int) = R m 1074:=by
  rw [← h]
  show Ieee.double.nearest (decide ((m:Int) < 0)) (m:Int).natAbs 0 = _
  rw [Int.natAbs_natCast,decide_eq_false (by omega)]
 rw [← e];simp [convert,run_underlying Tryz.underlying120,run_underlying Tryz.underlying47,Conv.intToFloat]
theorem floatOf {m:Nat} (hm:m < 2 * B):floatOfInt .f64 (m:Int) = R m 1074:=by
 have h:=of_whole hm (whole_fin hm);rw [← h]
 show Ieee.double.nearest (decide ((m:Int) < 0)) (m:Int).natAbs 0 = _
 rw [Int.natAbs_natCast,decide_eq_false (by omega)]
theorem and_2047 {x:Nat} (h:x < 18446744073709551616):bits .and .u64 (x:Int) 2047 = ((x % 2048:Nat):Int):=by
 have:=u64_and_nat x 2047 h (by decide);rw [show (2047:Nat) = 2 ^ 11 - 1 from by decide,Nat.and_two_pow_sub_one_eq_mod] at this;exact this
theorem or_B {x:Nat} (h:x < B):bits .or .u64 (x:Int) 4503599627370496 = ((x + B:Nat):Int):=by
 have hB:B = 4503599627370496:=rfl;have:=or64 (a:=x) (b:=B) (by omega) (by omega);have e:=join52 (E:=1) h;rw [Nat.one_mul,Nat.or_comm] at e;rw [e,Nat.add_comm] at this;exact this
theorem and_sign (s:Bool) {r:Nat} (h:r < S):bits .and .u64 ((wd s r:Nat):Int) 9223372036854775808 = ((if s then S else 0:Nat):Int):=by
 have hS:S = 9223372036854775808:=rfl;have:=u64_and_nat (wd s r) S (by cases s <;> simp [wd] <;> omega) (by omega);rw [show ((S:Nat):Int) = 9223372036854775808 from rfl] at this;rw [this]
 congr 1
 apply Nat.eq_of_testBit_eq
 intro i;have hp:S = 2 ^ 63:=S_pow;rw [Nat.testBit_and,hp,Nat.testBit_two_pow]
 by_cases hi:63 = i
 ·subst hi
  cases s
  ·rw [wd_false,Nat.testBit_lt_two_pow (by rw [← hp];exact h)]
   simp
  ·have t:=Nat.testBit_two_pow_mul_add 1 (b:=r) (i:=63) (by rw [← hp];exact h) 63
   rw [Nat.mul_one,← hp] at t
   show (Nat.testBit (S + r) 63 && _) = _
   rw [t,if_neg (by decide),if_pos rfl]
   decide +kernel
 ·rw [decide_eq_false hi,Bool.and_false]
  cases s
  ·simp
  ·rw [if_pos rfl,Nat.testBit_two_pow,decide_eq_false hi]
theorem parts_of (s:Bool) {r:Nat} (h:r < S):wd s r / B % 2048 = r / B ∧ wd s r % B = r % B:=by
 have hS:S = 2048 * B:=by decide
 cases s
 ·rw [wd_false]
  exact ⟨Nat.mod_eq_of_lt ((Nat.div_lt_iff_lt_mul (by decide)).2 (by rw [← hS];exact h)),rfl⟩
 ·show (S + r) / B % 2048 = _ ∧ (S + r) % B = _
  rw [hS,Nat.mul_comm 2048 B,Nat.mul_add_div (by decide),Nat.mul_add_mod];refine ⟨?_,rfl⟩
  rw [Nat.add_mod_left];exact Nat.mod_eq_of_lt ((Nat.div_lt_iff_lt_mul (by decide)).2 (by rw [← hS];exact h))
theorem masks (s:Bool) {r:Nat} (hr:r ≤ I) :
  bits .and .u64 (((wd s r:Nat):Int) / 4503599627370496) 2047 = ((r / B:Nat):Int) ∧ bits .and .u64 ((wd s r:Nat):Int) 4503599627370495 = ((r % B:Nat):Int) ∧
  bits .and .u64 ((wd s r:Nat):Int) 9223372036854775808 = ((if s then S else 0:Nat):Int) ∧ wd s r < 18446744073709551616 ∧ r / B ≤ 2047 ∧ r % B < B:=by
 have hS:r < S:=by have:=I_lt_S;omega
 have hw:wd s r < 18446744073709551616:=by
  have e:S = 9223372036854775808:=rfl
  unfold wd;split <;> omega
 obtain ⟨p1,p2⟩:=parts_of s hS;have a1:=and_2047 (x:=wd s r / B) (Nat.lt_of_le_of_lt (Nat.div_le_self _ _) hw);have a2:=and_low hw;rw [p1] at a1;rw [p2] at a2;have a0:((wd s r / B:Nat):Int) = ((wd s r:Nat):Int) / 4503599627370496:=Int.natCast_ediv _ _;rw [a0] at a1
 have hI:I = 2047 * B:=by decide
 exact ⟨a1,a2,and_sign s hS,hw,by rw [hI] at hr;exact Nat.div_le_of_le_mul (by rw [Nat.mul_comm];exact hr),Nat.mod_lt _ (by decide)⟩
def sv (s:Bool):Int:=((if s then S else 0:Nat):Int)
theorem sv_ne (s:Bool):(sv s != 0) = s:=by cases s <;> decide
theorem float_tiny (s:Bool) (r:Nat) (w:World) (hr:r < B) :
  Calls Tryz.prog 232 #[.int .u64 (wd s r:Nat)] w fun e w' => e = .returned (.float .f64 (wd s r)) ∧ Below w.heap.size w w':=by
 have hBI:B < I:=by decide
 obtain ⟨a1,a2,a3,hw,-,-⟩:=masks s (r:=r) (by omega);rw [Nat.div_eq_of_lt hr] at a1;rw [Nat.mod_eq_of_lt hr] at a2
 change bits .and .u64 ((wd s r:Nat):Int) 9223372036854775808 = sv s at a3
 have a4:=sv_ne s;have hf:=floatOf (m:=r) (by omega)
 have hsc:=hid (fun w => scale_any r 1074 0 (-1074) w (by omega) (by omega) (whole_fin (by omega)) (by
  rcases Nat.eq_zero_or_pos r with h | h
  ·rw [h,R_zero];decide
  ·exact fin_of h (by omega) (by have:=(norm_range h (by omega)).2.2;omega)) (by omega))
 have HR:Hid (R r 0 = wd false r):=hid (by
  rw [wd_false];unfold R
  split
  ·omega
  ·rename_i h0
   have:r.log2 < 52:=(Nat.log2_lt h0).2 (by rw [← B_pow];exact hr)
   rw [if_pos (by omega),Nat.pow_zero,Nat.mul_one])
 have hn:=fun w => run_neg false (r:=r) (by have:=I_lt_S;omega) w
 generalize sv s = V at *;generalize hU:wd s r = U at *;replace hU:=hid hU;generalize R r 1074 = G at *;replace hr:=hid hr;replace hBI:=hid hBI;go_enter Tryz.func232,Tryz.ntmps232;go_wp2_with fail;refine (hsc.out _).mono ?_
 rintro e w' ⟨rfl,hb⟩;rw [HR.out]
 cases s
 all_goals
  go_wp2_with fail;go_ret;exact ⟨by rw [← hU.out];rfl,hb⟩
theorem float_plain (s:Bool) (r:Nat) (w:World) (h1:B ≤ r) (hr:r < I) :
  Calls Tryz.prog 232 #[.int .u64 (wd s r:Nat)] w fun e w' => e = .returned (.float .f64 (wd s r)) ∧ Below w.heap.size w w':=by
 obtain ⟨a1,a2,a3,hw,hE,hM⟩:=masks s (r:=r) (by omega)
 change bits .and .u64 ((wd s r:Nat):Int) 9223372036854775808 = sv s at a3
 have a4:=sv_ne s
 have hI:I = 2047 * B:=by decide
 have hz:1 ≤ r / B:=(Nat.one_le_div_iff (by decide)).2 h1;have hlt:r / B < 2047:=(Nat.div_lt_iff_lt_mul (by decide)).2 (by rw [← hI];exact hr);have hsum:=Nat.div_add_mod r B
 have hf:floatOfInt .f64 (((r % B:Nat):Int) + (B:Int)) = R (r % B + B) 1074:=by rw [← Int.natCast_add];exact floatOf (by omega)
 have hor:=or_B hM
 have hmm:(r % B + B).log2 = 52:=by
  have a:(r % B + B).log2 < 53:=(Nat.log2_lt (by omega)).2 (by rw [show (2:Nat) ^ 53 = 2 * B from by decide];omega);have b:52 ≤ (r % B + B).log2:=(Nat.le_log2 (by omega)).2 (by rw [← B_pow];omega);omega
 have hJ:R (r % B + B) (r / B - 1) < I:=fin_of (by omega) (by omega) (by omega);have hsc:=hid (fun w => scale_any (r % B + B) 1074 (r / B - 1) (((r / B:Nat):Int) - 1023 - 52) w (by omega) (by omega) (whole_fin (by omega)) hJ (by omega))
 have HR:Hid (R (r % B + B) (r / B - 1) = wd false r):=hid (by
  rw [wd_false];unfold R;rw [if_neg (by omega),if_neg (by omega),hmm,Nat.sub_self,Nat.pow_zero,Nat.mul_one,show 52 + (r / B - 1) - 52 = r / B - 1 from by omega]
  have:(r / B - 1) * B + B = B * (r / B):=by
   rw [← Nat.succ_mul,Nat.mul_comm];congr 1;omega
  omega)
 have hn:=fun w => run_neg false (r:=r) (by have:=I_lt_S;omega) w
 have hne:(((r / B:Nat):Int) == 2047) = false:=by rw [beq_eq_false_iff_ne];omega
 have hne0:(((r / B:Nat):Int) == 0) = false:=by rw [beq_eq_false_iff_ne];omega
 clear hmm hJ hsum hI h1 hr;generalize r / B = E at *;generalize R (r % B + B) 1074 = G at *;generalize r % B = M at *;generalize sv s = V at *;generalize hU:wd s r = U at *;replace hU:=hid hU;replace hM:=hid hM;go_enter Tryz.func232,Tryz.ntmps232;go_wp2_with fail;refine (hsc.out _).mono ?_
 rintro e w' ⟨rfl,hb⟩;rw [HR.out]
 cases s
 all_goals
  go_wp2_with fail;go_ret;exact ⟨by rw [← hU.out];rfl,hb⟩
theorem float_inf (s:Bool) (w:World) :
  Calls Tryz.prog 232 #[.int .u64 (wd s I:Nat)] w fun e w' => e = .returned (.float .f64 (wd s I)) ∧ Below w.heap.size w w':=by
 obtain ⟨a1,a2,a3,hw,hE,hM⟩:=masks s (r:=I) (Nat.le_refl _)
 change bits .and .u64 ((wd s I:Nat):Int) 9223372036854775808 = sv s at a3
 have a4:=sv_ne s;rw [show I / B = 2047 from by decide] at a1;rw [show I % B = 0 from by decide] at a2;have hd:=run_div (a:=4607182418800017408) (b:=0) (r:=wd false I) (by decide +kernel)
 have hn:=fun w => run_neg false (r:=I) I_lt_S w
 clear hE hM;generalize sv s = V at *;generalize hU:wd s I = U at *;replace hU:=hid hU
 cases s
 all_goals
  go_enter Tryz.func232,Tryz.ntmps232;go_wp2_with fail;go_ret;exact ⟨by rw [← hU.out];rfl,Below.refl _ _⟩
theorem float_num (s:Bool) (r:Nat) (w:World) (hr:r ≤ I) :
  Calls Tryz.prog 232 #[.int .u64 (wd s r:Nat)] w fun e w' => e = .returned (.float .f64 (wd s r)) ∧ Below w.heap.size w w':=by
 rcases Nat.lt_or_ge r B with h | h
 ·exact float_tiny s r w h
 ·rcases Nat.lt_or_ge r I with h' | h'
  ·exact float_plain s r w h h'
  ·obtain rfl:r = I:=by omega
   exact float_inf s w
theorem run_nought (w:World):∃ b,(binOp .quo 47 (.float .f64 0) (.float .f64 0)).run Tryz.prog w = .ok (.float .f64 b) w.drew ∧ isNan b = true ∧ b < 2 * S:=by
 have hd:Ieee.double.div 0 0 = none:=by decide +kernel
 have hd':FloatKind.f64.format.div 0 0 = none:=hd;refine ⟨(Question.nanBits .f64 0 0).cut (w.tape w.drawn (.nanBits .f64 0 0)),?_,?_⟩
 ·simp [binOp,Op.floatArith,hd',Question.forced]
 ·have hc:∀ t:Nat,(Question.nanBits .f64 0 0).cut t = t % 2 * 9223372036854775808 + 9218868437227405312 + 1 + t / 2 % (2 ^ 52 - 1):=fun _ => rfl
  rw [hc];unfold isNan;generalize w.tape w.drawn (.nanBits .f64 0 0) = t;have hS:S = 9223372036854775808:=rfl;have hI:I = 9218868437227405312:=rfl;rw [decide_eq_true_iff]
  have h1:t % 2 = 0 ∨ t % 2 = 1:=by omega
  have h2:t / 2 % (2 ^ 52 - 1) < 2 ^ 52 - 1:=Nat.mod_lt _ (by decide);generalize t / 2 % (2 ^ 52 - 1) = x at *;rw [hS,hI]
  rcases h1 with h1 | h1 <;> rw [h1] <;> omega
theorem float_nan (u:Nat) (w:World) (hu:u < 2 * S) (h:isNan u = true) :
  Calls Tryz.prog 232 #[.int .u64 u] w fun e w' => (∃ b,e = .returned (.float .f64 b) ∧ isNan b = true ∧ b < 2 * S) ∧ Below w.heap.size w w':=by
 have hw:u < 18446744073709551616:=hu;have a1:=and_2047 (x:=u / B) (Nat.lt_of_le_of_lt (Nat.div_le_self _ _) hw);have a2:=and_low hw;have a0:((u / B:Nat):Int) = (u:Int) / 4503599627370496:=Int.natCast_ediv _ _;rw [a0] at a1
 have e1:u / B % 2048 = 2047 ∧ u % B ≠ 0:=by
  have h':I < u % S:=by unfold isNan at h;simpa using h
  have hS:S = 9223372036854775808:=rfl;have hI:I = 9218868437227405312:=rfl;have hB:B = 4503599627370496:=rfl;rw [hS,hI] at h';rw [hB];omega
 rw [e1.1] at a1
 have hne:(((u % B:Nat):Int) != 0) = true:=by rw [bne_iff_ne];omega
 obtain ⟨b,hrun,hb1,hb2⟩:=run_nought w;replace e1:=hid e1;generalize u % B = M at *;go_enter Tryz.func232,Tryz.ntmps232;go_wp2_with fail;go_ret;exact ⟨⟨b,rfl,hb1,hb2⟩,(Below.refl _ _).drew⟩
end Fl
end
section
open Go.RowKit
namespace Fl
theorem lt64 {u:Nat} (h:u < 2 * S):u < 18446744073709551616:=h
def eOf (u:Nat):Nat:=u / B % 2048
def mOf (u:Nat):Nat:=u % B
theorem e_and {u:Nat} (h:u < 2 * S):bits .and .u64 ((u:Int) / 4503599627370496) 2047 = ((eOf u:Nat):Int):=by
 have a1:=and_2047 (x:=u / B) (Nat.lt_of_le_of_lt (Nat.div_le_self _ _) (lt64 h));have a0:((u / B:Nat):Int) = (u:Int) / 4503599627370496:=Int.natCast_ediv _ _;rw [a0] at a1;exact a1
theorem m_and {u:Nat} (h:u < 2 * S):bits .and .u64 (u:Int) 4503599627370495 = ((mOf u:Nat):Int):=and_low (lt64 h)
theorem e_lt (u:Nat):eOf u < 2048:=Nat.mod_lt _ (by decide)
theorem nan_iff (u:Nat):isNan u = (eOf u == 2047 && mOf u != 0):=by
 rw [Bool.eq_iff_iff];unfold isNan eOf mOf;have hS:S = 9223372036854775808:=rfl;have hI:I = 9218868437227405312:=rfl;have hB:B = 4503599627370496:=rfl;rw [hS,hI,hB];simp only [decide_eq_true_iff,Bool.and_eq_true,beq_iff_eq,bne_iff_ne];omega
def canonB (u:Nat):Bool:=!isNan u || u == nanU
theorem nat_beq (a b:Nat):((a:Int) == (b:Int)) = (a == b):=by
 rw [Bool.eq_iff_iff];simp only [beq_iff_eq];omega
theorem canon_any (u:Nat) (w:World) (hu:u < 2 * S) :
  Calls Tryz.prog 231 #[.int .u64 u] w fun e w' => e = .returned (.bool (canonB u)) ∧ w = w':=by
 have hw:=lt64 hu;have a1:=e_and hu;have a2:=m_and hu;have HN:=hid (nan_iff u);have HC:=hid (show canonB u = (!isNan u || u == nanU) from rfl);have hE:=e_lt u;have HU:=hid (nat_beq u nanU);generalize eOf u = E at *;generalize mOf u = M at *
 by_cases h1:E = 2047
 ·subst h1
  by_cases h2:M = 0
  ·subst h2
   go_enter Tryz.func231,Tryz.ntmps231;go_wp2_with fail;go_ret;exact ⟨by rw [HC.out,HN.out];rfl,rfl⟩
  ·have h3:((M:Int) == 0) = false:=by rw [beq_eq_false_iff_ne];omega
   replace h2:=hid h2;have h4:(((u:Nat):Int) == 9221120237041090560) = (u == nanU):=HU.out
   have h5:(M != 0) = true:=by rw [bne_iff_ne];exact h2.out
   replace h5:=hid h5;generalize (u == nanU) = q at *;go_enter Tryz.func231,Tryz.ntmps231;go_wp2_with fail;go_ret;exact ⟨by rw [HC.out,HN.out,h5.out];rfl,rfl⟩
 ·have h3:((E:Int) != 2047) = true:=by rw [bne_iff_ne];omega
  have h5:(E == 2047) = false:=by rw [beq_eq_false_iff_ne];exact h1
  replace h5:=hid h5;replace h1:=hid h1;go_enter Tryz.func231,Tryz.ntmps231;go_wp2_with fail;go_ret;exact ⟨by rw [HC.out,HN.out,h5.out];rfl,rfl⟩
theorem canon_lt {b:Nat} (h:b < 2 * S):canon b < 2 * S:=by
 unfold canon
 split
 ·decide
 ·exact h
theorem same_any (a b:Nat) (w:World) (ha:a < 2 * S) (hb:b < 2 * S) :
  Calls Tryz.prog 214 #[.float .f64 a,.float .f64 b] w fun e w' => e = .returned (.bool (canon a == canon b)) ∧ Below w.heap.size w w':=by
 have h:=nat_beq (canon a) (canon b);have HA:=hid (fun w => bits_any a w ha);have HB:=hid (fun w => bits_any b w hb);go_enter Tryz.func214,Tryz.ntmps214;go_wp2_with fail;refine (HA.out _).mono ?_
 rintro e w1 ⟨rfl,hb1⟩;go_wp2_with fail;refine (HB.out _).mono ?_
 rintro e w2 ⟨rfl,hb2⟩;go_wp2_with fail;go_ret;exact ⟨rfl,hb1.trans (hb2.mono hb1.size)⟩
end Fl
end
section
open Go.RowKit
namespace Fl
theorem float_word (u:Nat) (w:World) (hu:u < 2 * S) (h:isNan u = false) :
  Calls Tryz.prog 232 #[.int .u64 u] w fun e w' => e = .returned (.float .f64 u) ∧ Below w.heap.size w w':=by
 have hr:u % S ≤ I:=by unfold isNan at h;simpa using h
 have e:=wd_of u hu;have:=float_num (neg u) (u % S) w hr;rw [← e] at this;exact this
theorem canon_nan {b:Nat} (h:isNan b = true):canon b = nanU:=by unfold canon;rw [if_pos h]
end Fl
end
section
open Go.RowKit
namespace Fl
theorem float_any (u:Nat) (w:World) (hu:u < 2 * S) :
  Calls Tryz.prog 232 #[.int .u64 u] w fun e w' => (∃ b,e = .returned (.float .f64 b) ∧ b < 2 * S ∧ canon b = canon u ∧ isNan b = isNan u ∧ (isNan u = false → b = u)) ∧ Below w.heap.size w w':=by
 cases h:isNan u with
 | true =>
  refine (float_nan u w hu h).mono ?_
  rintro e w' ⟨⟨b,rfl,h1,h2⟩,hb⟩;exact ⟨⟨b,rfl,h2,by rw [canon_nan h1,canon_nan h],h1,fun h => by cases h⟩,hb⟩
 | false =>
  refine (float_word u w hu h).mono ?_
  rintro e w' ⟨rfl,hb⟩;exact ⟨⟨u,rfl,hu,rfl,h,fun _ => rfl⟩,hb⟩
theorem canon_word {u:Nat} (h:isNan u = false):canon u = u:=by unfold canon;rw [h];rfl
theorem canonB_canon (u:Nat):canonB (canon u) = true:=by
 unfold canonB
 cases h:isNan u with
 | true => rw [canon_nan h];decide +kernel
 | false => rw [canon_word h,h];rfl
theorem canonB_true {u:Nat} (h:canonB u = true):canon u = u:=by
 cases hn:isNan u with
 | true =>
  unfold canonB at h;rw [hn] at h;rw [canon_nan hn]
  have:(u == nanU) = true:=by simpa using h
  exact (beq_iff_eq.1 this).symm
 | false => exact canon_word hn
theorem order_self {b:Nat} (hb:b < 2 * S) (h:isNan b = false):FloatKind.f64.format.order b b = some .eq:=by
 have hr:b % S ≤ I:=by unfold isNan at h;simpa using h
 have e:=wd_of b hb;have:=fo_num (neg b) (neg b) hr hr;rw [← e] at this;rw [this];simp
end Fl
end
section
open Go.RowKit
namespace Rl
theorem and_cat {x y m n:Nat} (hx:x < 256) (hm:m < 256):(x + 256 * y) &&& (m + 256 * n) = (x &&& m) + 256 * (y &&& n):=by
 have h1:((x + 256 * y) &&& (m + 256 * n)) % 2 ^ 8 = x &&& m:=by
  rw [Nat.and_mod_two_pow]
  congr 1 <;> omega
 have h2:((x + 256 * y) &&& (m + 256 * n)) / 2 ^ 8 = y &&& n:=by
  rw [Nat.and_div_two_pow]
  congr 1 <;> omega
 have h3:=Nat.div_add_mod ((x + 256 * y) &&& (m + 256 * n)) (2 ^ 8);rw [h1,h2] at h3;omega
theorem or_cat {x y m n:Nat} (hx:x < 256) (hm:m < 256):(x + 256 * y) ||| (m + 256 * n) = (x ||| m) + 256 * (y ||| n):=by
 have h1:((x + 256 * y) ||| (m + 256 * n)) % 2 ^ 8 = x ||| m:=by
  rw [Nat.or_mod_two_pow]
  congr 1 <;> omega
 have h2:((x + 256 * y) ||| (m + 256 * n)) / 2 ^ 8 = y ||| n:=by
  rw [Nat.or_div_two_pow]
  congr 1 <;> omega
 have h3:=Nat.div_add_mod ((x + 256 * y) ||| (m + 256 * n)) (2 ^ 8);rw [h1,h2] at h3;omega
theorem and_all {x:Nat} (hx:x < 256):x &&& 255 = x:=by
 have:=Nat.and_two_pow_sub_one_eq_mod x 8;rw [show (2:Nat) ^ 8 - 1 = 255 from rfl] at this;rw [this];omega
def num8 (b0 b1 b2 b3 b4 b5 b6 b7:Nat):Nat:=b0 + 256 * (b1 + 256 * (b2 + 256 * (b3 + 256 * (b4 + 256 * (b5 + 256 * (b6 + 256 * (b7 + 256 * 0)))))))
theorem cat_lt {x y B:Nat} (hx:x < 256) (hy:y < B):x + 256 * y < 256 * B:=by omega
theorem num8_lt {b0 b1 b2 b3 b4 b5 b6 b7:Nat} (h0:b0 < 256) (h1:b1 < 256) (h2:b2 < 256) (h3:b3 < 256) (h4:b4 < 256) (h5:b5 < 256) (h6:b6 < 256) (h7:b7 < 256):num8 b0 b1 b2 b3 b4 b5 b6 b7 < 18446744073709551616:=
 cat_lt h0 (cat_lt h1 (cat_lt h2 (cat_lt h3 (cat_lt h4 (cat_lt h5 (cat_lt h6 (cat_lt (B:=1) h7 (by decide))))))))
theorem and8 {b0 b1 b2 b3 b4 b5 b6 b7 c0 c1 c2 c3 c4 c5 c6 c7:Nat} (h0:b0 < 256) (h1:b1 < 256) (h2:b2 < 256) (h3:b3 < 256) (h4:b4 < 256) (h5:b5 < 256) (h6:b6 < 256) (h7:b7 < 256)
  (k0:c0 < 256) (k1:c1 < 256) (k2:c2 < 256) (k3:c3 < 256) (k4:c4 < 256) (k5:c5 < 256) (k6:c6 < 256) (k7:c7 < 256) :
  num8 b0 b1 b2 b3 b4 b5 b6 b7 &&& num8 c0 c1 c2 c3 c4 c5 c6 c7 = num8 (b0 &&& c0) (b1 &&& c1) (b2 &&& c2) (b3 &&& c3) (b4 &&& c4) (b5 &&& c5) (b6 &&& c6) (b7 &&& c7):=by
 unfold num8;rw [and_cat h0 k0,and_cat h1 k1,and_cat h2 k2,and_cat h3 k3,and_cat h4 k4,and_cat h5 k5,and_cat h6 k6,and_cat h7 k7]
 rfl
theorem or8 {b0 b1 b2 b3 b4 b5 b6 b7 c0 c1 c2 c3 c4 c5 c6 c7:Nat} (h0:b0 < 256) (h1:b1 < 256) (h2:b2 < 256) (h3:b3 < 256) (h4:b4 < 256) (h5:b5 < 256) (h6:b6 < 256) (h7:b7 < 256)
  (k0:c0 < 256) (k1:c1 < 256) (k2:c2 < 256) (k3:c3 < 256) (k4:c4 < 256) (k5:c5 < 256) (k6:c6 < 256) (k7:c7 < 256) :
  num8 b0 b1 b2 b3 b4 b5 b6 b7 ||| num8 c0 c1 c2 c3 c4 c5 c6 c7 = num8 (b0 ||| c0) (b1 ||| c1) (b2 ||| c2) (b3 ||| c3) (b4 ||| c4) (b5 ||| c5) (b6 ||| c6) (b7 ||| c7):=by
 unfold num8;rw [or_cat h0 k0,or_cat h1 k1,or_cat h2 k2,or_cat h3 k3,or_cat h4 k4,or_cat h5 k5,or_cat h6 k6,or_cat h7 k7]
 rfl
theorem split8 {u:Nat} (h:u < 18446744073709551616):∃ b0 b1 b2 b3 b4 b5 b6 b7,b0 < 256 ∧ b1 < 256 ∧ b2 < 256 ∧ b3 < 256 ∧ b4 < 256 ∧ b5 < 256 ∧ b6 < 256 ∧ b7 < 256 ∧ u = num8 b0 b1 b2 b3 b4 b5 b6 b7:=by
 refine ⟨u % 256,u / 256 % 256,u / 256 / 256 % 256,u / 256 / 256 / 256 % 256,u / 256 / 256 / 256 / 256 % 256,u / 256 / 256 / 256 / 256 / 256 % 256,u / 256 / 256 / 256 / 256 / 256 / 256 % 256,u / 256 / 256 / 256 / 256 / 256 / 256 / 256,by omega,by omega,by omega,by omega,by omega,by omega,by omega,by omega,?_⟩
 unfold num8;omega
def rev:Nat → Nat → Nat → Nat
 | 0,v,_ => v
 | k + 1,v,u => rev k (256 * v + u % 256) (u / 256)
def swapN (u:Nat):Nat:=rev 8 0 u
theorem low8 {x y:Nat} (hx:x < 256):(x + 256 * y) % 256 = x ∧ (x + 256 * y) / 256 = y:=by omega
theorem swap8 {b0 b1 b2 b3 b4 b5 b6 b7:Nat} (h0:b0 < 256) (h1:b1 < 256) (h2:b2 < 256) (h3:b3 < 256) (h4:b4 < 256) (h5:b5 < 256) (h6:b6 < 256) (h7:b7 < 256):swapN (num8 b0 b1 b2 b3 b4 b5 b6 b7) = num8 b7 b6 b5 b4 b3 b2 b1 b0:=by
 unfold swapN num8;simp only [rev,(low8 h0).1,(low8 h0).2,(low8 h1).1,(low8 h1).2,(low8 h2).1,(low8 h2).2,(low8 h3).1,(low8 h3).2,(low8 h4).1,(low8 h4).2,(low8 h5).1,(low8 h5).2,(low8 h6).1,(low8 h6).2,(low8 h7).1];omega
theorem swap_lt {u:Nat} (h:u < 18446744073709551616):swapN u < 18446744073709551616:=by
 obtain ⟨b0,b1,b2,b3,b4,b5,b6,b7,h0,h1,h2,h3,h4,h5,h6,h7,rfl⟩:=split8 h;rw [swap8 h0 h1 h2 h3 h4 h5 h6 h7];exact num8_lt h7 h6 h5 h4 h3 h2 h1 h0
theorem swap_swap {u:Nat} (h:u < 18446744073709551616):swapN (swapN u) = u:=by
 obtain ⟨b0,b1,b2,b3,b4,b5,b6,b7,h0,h1,h2,h3,h4,h5,h6,h7,rfl⟩:=split8 h;rw [swap8 h0 h1 h2 h3 h4 h5 h6 h7,swap8 h7 h6 h5 h4 h3 h2 h1 h0]
def m1:Nat:=71777214294589695
def m2:Nat:=281470681808895
theorem m1_bytes:m1 = num8 255 0 255 0 255 0 255 0:=by decide
theorem m2_bytes:m2 = num8 255 255 0 0 255 255 0 0:=by decide
theorem z256:0 < 256:=by decide
theorem f256:255 < 256:=by decide
def step1 (u:Nat):Nat:=(u / 256 &&& m1) ||| ((u &&& m1) * 256 % 18446744073709551616)
def step2 (u:Nat):Nat:=(u / 65536 &&& m2) ||| ((u &&& m2) * 65536 % 18446744073709551616)
def step3 (u:Nat):Nat:=(u / 4294967296) ||| (u * 4294967296 % 18446744073709551616)
section
variable {b0 b1 b2 b3 b4 b5 b6 b7:Nat} (h0:b0 < 256) (h1:b1 < 256) (h2:b2 < 256) (h3:b3 < 256) (h4:b4 < 256) (h5:b5 < 256) (h6:b6 < 256) (h7:b7 < 256)
include h0 h1 h2 h3 h4 h5 h6 h7
theorem step1_bytes:step1 (num8 b0 b1 b2 b3 b4 b5 b6 b7) = num8 b1 b0 b3 b2 b5 b4 b7 b6:=by
 have e1:num8 b0 b1 b2 b3 b4 b5 b6 b7 / 256 = num8 b1 b2 b3 b4 b5 b6 b7 0:=by unfold num8;omega
 unfold step1;rw [e1,m1_bytes,and8 h1 h2 h3 h4 h5 h6 h7 z256 f256 z256 f256 z256 f256 z256 f256 z256,and8 h0 h1 h2 h3 h4 h5 h6 h7 f256 z256 f256 z256 f256 z256 f256 z256];simp only [Nat.and_zero,and_all h0,and_all h1,and_all h2,and_all h3,and_all h4,and_all h5,and_all h6,and_all h7]
 have e2:num8 b0 0 b2 0 b4 0 b6 0 * 256 % 18446744073709551616 = num8 0 b0 0 b2 0 b4 0 b6:=by unfold num8;omega
 rw [e2,or8 h1 z256 h3 z256 h5 z256 h7 z256 z256 h0 z256 h2 z256 h4 z256 h6];simp only [Nat.or_zero,Nat.zero_or]
theorem step2_bytes:step2 (num8 b0 b1 b2 b3 b4 b5 b6 b7) = num8 b2 b3 b0 b1 b6 b7 b4 b5:=by
 have e1:num8 b0 b1 b2 b3 b4 b5 b6 b7 / 65536 = num8 b2 b3 b4 b5 b6 b7 0 0:=by unfold num8;omega
 unfold step2;rw [e1,m2_bytes,and8 h2 h3 h4 h5 h6 h7 z256 z256 f256 f256 z256 z256 f256 f256 z256 z256,and8 h0 h1 h2 h3 h4 h5 h6 h7 f256 f256 z256 z256 f256 f256 z256 z256];simp only [Nat.and_zero,and_all h0,and_all h1,and_all h2,and_all h3,and_all h4,and_all h5,and_all h6,and_all h7]
 have e2:num8 b0 b1 0 0 b4 b5 0 0 * 65536 % 18446744073709551616 = num8 0 0 b0 b1 0 0 b4 b5:=by unfold num8;omega
 rw [e2,or8 h2 h3 z256 z256 h6 h7 z256 z256 z256 z256 h0 h1 z256 z256 h4 h5];simp only [Nat.or_zero,Nat.zero_or]
theorem step3_bytes:step3 (num8 b0 b1 b2 b3 b4 b5 b6 b7) = num8 b4 b5 b6 b7 b0 b1 b2 b3:=by
 have e1:num8 b0 b1 b2 b3 b4 b5 b6 b7 / 4294967296 = num8 b4 b5 b6 b7 0 0 0 0:=by unfold num8;omega
 have e2:num8 b0 b1 b2 b3 b4 b5 b6 b7 * 4294967296 % 18446744073709551616 = num8 0 0 0 0 b0 b1 b2 b3:=by unfold num8;omega
 unfold step3;rw [e1,e2,or8 h4 h5 h6 h7 z256 z256 z256 z256 z256 z256 z256 z256 h0 h1 h2 h3];simp only [Nat.or_zero,Nat.zero_or]
end
theorem swap_steps {u:Nat} (h:u < 18446744073709551616):step3 (step2 (step1 u)) = swapN u ∧ step1 u < 18446744073709551616 ∧ step2 (step1 u) < 18446744073709551616:=by
 obtain ⟨b0,b1,b2,b3,b4,b5,b6,b7,h0,h1,h2,h3,h4,h5,h6,h7,rfl⟩:=split8 h;rw [step1_bytes h0 h1 h2 h3 h4 h5 h6 h7,step2_bytes h1 h0 h3 h2 h5 h4 h7 h6,step3_bytes h3 h2 h1 h0 h7 h6 h5 h4,swap8 h0 h1 h2 h3 h4 h5 h6 h7];exact ⟨rfl,num8_lt h1 h0 h3 h2 h5 h4 h7 h6,num8_lt h3 h2 h1 h0 h7 h6 h5 h4⟩
end Rl
end
section
open Go.RowKit Go.ChangeShapes Go.WideShapes Go.ChangeAt
namespace Rl
open Mem Pk Fl
def cellsF (l:List Nat):List Value:=l.map (Value.float .f64)
theorem cellsF_append (l m:List Nat):cellsF (l ++ m) = cellsF l ++ cellsF m:=by unfold cellsF;simp
def OwnF (w:World) (base:Nat) (v:Value) (l:List Nat):Prop:=w.ownsRow base 47 1 v l.length (cellsF l)
theorem ownF_nil (w:World) (base:Nat):OwnF w base (.slice none 0 0) []:=World.ownsRow_nil w base _ 1
theorem ownF_snoc {w:World} {base:Nat} {v:Value} {acc:List Nat} {m:Nat} (h:w.ownsRow base 47 1 v (acc.length + 1) (cellsF acc ++ [.float .f64 m])):OwnF w base v (acc ++ [m]):=by
 unfold OwnF;rw [cellsF_append,List.length_append,List.length_singleton];exact h
theorem one_float (m:Nat):∀ x ∈ [Value.float .f64 m],x.oneCell' = true:=fun x hx => by simp at hx;subst hx;rfl
theorem infoF:(Tryz.prog.info? 47).map (fun i => (i.zero,i.size,i.bytes)) = some (some (.float .f64 0),1,8):=by kernel_rfl
structure Flts (W:World) (v:Value) (zs:List Nat):Prop where
 val:∃ (a:Option Addr) (cap:Nat),v = .slice a zs.length cap ∧ zs.length ≤ cap ∧ (0 < zs.length → ∃ b off,a = some ⟨b,off,none⟩ ∧ b < W.heap.size ∧ ∀ j,j < zs.length → W.cell? ⟨b,off + j,none⟩ = some (.float .f64 (zs[j]?.getD 0)))
 bound:∀ n ∈ zs,n < 2 * S
theorem OwnF.flts {w:World} {base:Nat} {v:Value} {l:List Nat} (h:OwnF w base v l) (hb:∀ n ∈ l,n < 2 * S):Flts w v l:=by
 obtain ⟨h1,h2⟩:=h;refine ⟨?_,hb⟩
 rcases h2 with ⟨rfl,h0⟩ | ⟨g,cap,cur,rfl,hg,hh,hn,hm,hs,ht⟩
 ·exact ⟨none,0,by rw [h0],by omega,fun h => by omega⟩
 ·refine ⟨_,cap,rfl,hn,fun _ => ⟨g,0,rfl,lt_of_block hh,fun j hj => ?_⟩⟩
  rw [cell_at hh]
  have e2:(cellsF l)[j]? = some (.float .f64 (l[j]?.getD 0)):=by unfold cellsF;simp [hj]
  rw [← ht,List.getElem?_take_of_lt (by omega)] at e2;rw [← e2];simp
theorem flts_below {w w':World} {v:Value} {l:List Nat} (h:Flts w v l) (hb:Below w.heap.size w w'):Flts w' v l:=by
 obtain ⟨⟨a,cap,rfl,hr,hc⟩,h2⟩:=h;refine ⟨⟨a,cap,rfl,hr,fun h0 => ?_⟩,h2⟩
 obtain ⟨b,off,e1,e2,e3⟩:=hc h0;exact ⟨b,off,e1,Nat.lt_of_lt_of_le e2 hb.size,fun j hj => (hb.cell (p:=⟨b,off + j,none⟩) e2).trans (e3 j hj)⟩
theorem flts_nil (w:World):Flts w (.slice none 0 0) []:=⟨⟨none,0,rfl,Nat.le_refl _,fun h => by simp at h⟩,fun n hn => by simp at hn⟩
theorem trod_float {H:Type} {enc:TypeId × Value → H} {P:Program} {w:World} {base:Nat} {spare:Nat → Bool} {held:Bool} {fuel:Nat} {t:TypeId} {cs:List Value} {x:DataW H × List MemPlace} (ht:P.underlying t = some (.float .f64)) (h:DataW.trod enc P w base spare held fuel t cs = some x):∃ b:Nat,cs = [.float .f64 b] ∧ (Lit.float .f64 b).wf = true:=by
 cases fuel with
 | zero => simp [DataW.trod] at h
 | succ n =>
  unfold DataW.trod at h;rw [ht] at h
  split at h <;> simp_all
def encR:Nat → List Nat → List UInt8
 | _,[] => []
 | last,b :: l => putL (swapN (canon b ^^^ last)) ++ encR (canon b) l
def lastR:Nat → List Nat → Nat
 | last,[] => last
 | _,b :: l => lastR (canon b) l
theorem encR_append (l m:List Nat):∀ p,encR p (l ++ m) = encR p l ++ encR (lastR p l) m:=by
 induction l with
 | nil => intro p;rfl
 | cons b l ih => intro p;rw [List.cons_append,encR,ih,encR,lastR,List.append_assoc]
theorem lastR_append (l m:List Nat):∀ p,lastR p (l ++ m) = lastR (lastR p l) m:=by
 induction l with
 | nil => intro p;rfl
 | cons b l ih => intro p;rw [List.cons_append,lastR,ih,lastR]
theorem encR_snoc (l:List Nat) (b p:Nat):encR p (l ++ [b]) = encR p l ++ putL (swapN (canon b ^^^ lastR p l)):=by
 rw [encR_append]
 show encR p l ++ (_ ++ []) = _
 rw [List.append_nil]
theorem lastR_snoc (l:List Nat) (b p:Nat):lastR p (l ++ [b]) = canon b:=by rw [lastR_append];rfl
theorem xor_lt {a b:Nat} (ha:a < 2 * S) (hb:b < 2 * S):a ^^^ b < 2 * S:=by
 have e:2 * S = 2 ^ 64:=by decide
 rw [e] at *;exact Nat.xor_lt_two_pow ha hb
theorem lastR_lt (l:List Nat):∀ p,p < 2 * S → (∀ b ∈ l,b < 2 * S) → lastR p l < 2 * S:=by
 induction l with
 | nil => intro p hp _;exact hp
 | cons b l ih => intro p _ h;exact ih _ (canon_lt (h b List.mem_cons_self)) (fun c hc => h c (List.mem_cons_of_mem _ hc))
theorem encR_len (l:List Nat):∀ p,(encR p l).length ≤ 10 * l.length:=by
 induction l with
 | nil => intro p;exact Nat.le_refl _
 | cons b l ih =>
  intro p;rw [encR,List.length_append,List.length_cons];have:=putL_length (swapN (canon b ^^^ p));have:=ih (canon b);omega
theorem encR_ge (l:List Nat):∀ p,l.length ≤ (encR p l).length:=by
 induction l with
 | nil => intro p;exact Nat.le_refl _
 | cons b l ih =>
  intro p;rw [encR,List.length_append,List.length_cons];have:=putL_pos (swapN (canon b ^^^ p));have:=ih (canon b);omega
def rdR:Nat → ByteArray → Nat → Int × List Nat
 | 0,s,_ => (doneE s 0,[])
 | k + 1,s,last =>
  if numE s 0 ≠ 0 then (numE s 0,[])
  else if canonB (swapN (numN s 0) ^^^ last) = false then (5,[])
  else ((rdR k (rest s (numK s 0)) (swapN (numN s 0) ^^^ last)).1,(swapN (numN s 0) ^^^ last) :: (rdR k (rest s (numK s 0)) (swapN (numN s 0) ^^^ last)).2)
def decRE (s:ByteArray) (n:Int):Int:=if n < 0 then 1 else if (s.size:Int) < n then 2 else (rdR n.toNat s 0).1
def decRL (s:ByteArray) (n:Int):List Nat:=if n < 0 then [] else if (s.size:Int) < n then [] else if (rdR n.toNat s 0).1 = 0 then (rdR n.toNat s 0).2 else []
end Rl
end
section
open Go.RowKit
namespace Rl
open Mem Pk Fl
theorem and64 {a b:Nat} (ha:a < 2 * S) (hb:b < 2 * S):bits .and .u64 (a:Int) (b:Int) = ((a &&& b:Nat):Int):=u64_and_nat a b ha hb
theorem or64 {a b:Nat} (ha:a < 2 * S) (hb:b < 2 * S):bits .or .u64 (a:Int) (b:Int) = ((a ||| b:Nat):Int):=u64_or_nat a b ha hb
theorem xor64 {a b:Nat} (ha:a < 2 * S) (hb:b < 2 * S):bits .xor .u64 (a:Int) (b:Int) = ((a ^^^ b:Nat):Int):=u64_xor_nat a b ha hb
theorem m_lt1:m1 < 2 * S:=by decide
theorem m_lt2:m2 < 2 * S:=by decide
theorem mod_lt64 (n:Nat):n % 18446744073709551616 < 2 * S:=Nat.mod_lt _ (by decide)
theorem step1_int {a:Nat} (h:a < 2 * S):bits .or .u64 (bits .and .u64 ((a:Int) / 256) 71777214294589695) (IntKind.u64.wrap (bits .and .u64 (a:Int) 71777214294589695 * 256)) = ((step1 a:Nat):Int):=by
 have e1:=and64 (a:=a / 256) (b:=m1) (Nat.lt_of_le_of_lt (Nat.div_le_self _ _) h) m_lt1;have e2:=and64 (a:=a) (b:=m1) h m_lt1;have c1:((a / 256:Nat):Int) = (a:Int) / 256:=Int.natCast_ediv _ _;have c2:((m1:Nat):Int) = 71777214294589695:=rfl;rw [c1,c2] at e1;rw [c2] at e2
 have e3:IntKind.u64.wrap (((a &&& m1:Nat):Int) * 256) = (((a &&& m1) * 256 % 18446744073709551616:Nat):Int):=by rw [IntKind.wrap_u64];omega
 rw [e1,e2,e3,or64 (Nat.lt_of_le_of_lt Nat.and_le_right m_lt1) (mod_lt64 _)]
 rfl
theorem step2_int {a:Nat} (h:a < 2 * S):bits .or .u64 (bits .and .u64 ((a:Int) / 65536) 281470681808895) (IntKind.u64.wrap (bits .and .u64 (a:Int) 281470681808895 * 65536)) = ((step2 a:Nat):Int):=by
 have e1:=and64 (a:=a / 65536) (b:=m2) (Nat.lt_of_le_of_lt (Nat.div_le_self _ _) h) m_lt2;have e2:=and64 (a:=a) (b:=m2) h m_lt2;have c1:((a / 65536:Nat):Int) = (a:Int) / 65536:=Int.natCast_ediv _ _;have c2:((m2:Nat):Int) = 281470681808895:=rfl;rw [c1,c2] at e1;rw [c2] at e2
 have e3:IntKind.u64.wrap (((a &&& m2:Nat):Int) * 65536) = (((a &&& m2) * 65536 % 18446744073709551616:Nat):Int):=by rw [IntKind.wrap_u64];omega
 rw [e1,e2,e3,or64 (Nat.lt_of_le_of_lt Nat.and_le_right m_lt2) (mod_lt64 _)]
 rfl
theorem step3_int {a:Nat} (h:a < 2 * S):bits .or .u64 ((a:Int) / 4294967296) (IntKind.u64.wrap ((a:Int) * 4294967296)) = ((step3 a:Nat):Int):=by
 have c1:((a / 4294967296:Nat):Int) = (a:Int) / 4294967296:=Int.natCast_ediv _ _
 have e3:IntKind.u64.wrap ((a:Int) * 4294967296) = ((a * 4294967296 % 18446744073709551616:Nat):Int):=by rw [IntKind.wrap_u64];omega
 rw [← c1,e3,or64 (Nat.lt_of_le_of_lt (Nat.div_le_self _ _) h) (mod_lt64 _)]
 rfl
theorem ret_u64 {a b:Int} (h:a = b):Ending.returned (.int .u64 a) = .returned (.int .u64 b):=by rw [h]
theorem swap_any (u:Nat) (w:World) (hu:u < 2 * S) :
  Calls Tryz.prog 182 #[.int .u64 u] w fun e w' => e = .returned (.int .u64 (swapN u:Nat)) ∧ w = w':=by
 have hw:u < 18446744073709551616:=hu;go_enter Tryz.func182,Tryz.ntmps182;have HS:=hid (swap_steps hw);have H1:=hid (step1_int hu);have H2:=hid (step2_int (a:=step1 u) HS.out.2.1);have H3:=hid (step3_int (a:=step2 (step1 u)) HS.out.2.2);go_wp2_with fail;go_ret;exact ⟨ret_u64 (by rw [H1.out,H2.out,H3.out,HS.out.1]),rfl⟩
end Rl
end
section
open Go.RowKit
namespace Rl
open Mem Pk Fl
def lastO (p:Nat):Obj:=.cells #[.int .u64 (p:Int)] 120
def keepO (f:Nat):Obj:=.cells #[.func (.func f) #[] #[]] 267
theorem keep_enc (a b:Int) (w:World):Calls Tryz.prog 181 #[.int .u64 a,.int .u64 b] w fun e w' => e = .returned (.int .u64 a) ∧ w = w':=by
 go_enter Tryz.func181,Tryz.ntmps181;go_wp2_with fail;go_ret;exact ⟨rfl,rfl⟩
theorem keep_dec (a b:Int) (w:World):Calls Tryz.prog 230 #[.int .u64 a,.int .u64 b] w fun e w' => e = .returned (.int .u64 b) ∧ w = w':=by
 go_enter Tryz.func230,Tryz.ntmps230;go_wp2_with fail;go_ret;exact ⟨rfl,rfl⟩
theorem chain_any (f:Nat) (w:World):Calls Tryz.prog 180 #[.func (.func f) #[] #[]] w fun e w' =>
  e = .returned (.func (.func 222) #[] #[.pointer (some ⟨w.heap.size + 1,0,none⟩),.pointer (some ⟨w.heap.size,0,none⟩)]) ∧ w'.heap[w.heap.size]? = some (keepO f) ∧ w'.heap[w.heap.size + 1]? = some (lastO 0) ∧ w'.heap.size = w.heap.size + 2 ∧ Below w.heap.size w w':=by
 go_enter Tryz.func180,Tryz.ntmps180;go_wp2_with fail;go_ret;have h1:=alloc_new (w.alloc (keepO f)) (lastO 0);rw [World.size_alloc] at h1;exact ⟨rfl,alloc_at (lastO 0) (alloc_new w (keepO f)),h1,by simp,((Below.refl _ w).alloc (Nat.le_refl _) (keepO f)).alloc (by simp) (lastO 0)⟩
theorem next_enc (K L a p:Nat) (w:World) (hK:w.heap[K]? = some (keepO 181)) (hL:w.heap[L]? = some (lastO p)) (ha:a < 2 * S) (hp:p < 2 * S) :
  Calls Tryz.prog 222 #[.int .u64 a,.pointer (some ⟨L,0,none⟩),.pointer (some ⟨K,0,none⟩)] w fun e w' => e = .returned (.int .u64 ((a ^^^ p:Nat):Int)) ∧ w' = w.setCell ⟨L,0,none⟩ (.int .u64 (a:Int)):=by
 have c1:w.cell? ⟨K,0,none⟩ = some (.func (.func 181) #[] #[]):=(cell_at hK 0).trans rfl;have c2:w.cell? ⟨L,0,none⟩ = some (.int .u64 (p:Int)):=(cell_at hL 0).trans rfl;have f1:w.frozen? ⟨L,0,none⟩ = false:=free_at hL 0;have hx:=hid (xor64 ha hp);clear hK hL;go_enter Tryz.func222,Tryz.ntmps222
 go_wp2_with (go_at_call 181;refine (keep_enc _ _ _).mono ?_;rintro e w' ⟨rfl,rfl⟩)
 go_ret;exact ⟨ret_u64 hx.out,rfl⟩
theorem next_dec (K L a p:Nat) (w:World) (hK:w.heap[K]? = some (keepO 230)) (hL:w.heap[L]? = some (lastO p)) (ha:a < 2 * S) (hp:p < 2 * S) :
  Calls Tryz.prog 222 #[.int .u64 a,.pointer (some ⟨L,0,none⟩),.pointer (some ⟨K,0,none⟩)] w fun e w' => e = .returned (.int .u64 ((a ^^^ p:Nat):Int)) ∧ w' = w.setCell ⟨L,0,none⟩ (.int .u64 ((a ^^^ p:Nat):Int)):=by
 have c1:w.cell? ⟨K,0,none⟩ = some (.func (.func 230) #[] #[]):=(cell_at hK 0).trans rfl;have c2:w.cell? ⟨L,0,none⟩ = some (.int .u64 (p:Int)):=(cell_at hL 0).trans rfl;have f1:w.frozen? ⟨L,0,none⟩ = false:=free_at hL 0;have hx:=hid (xor64 ha hp);clear hK hL;go_enter Tryz.func222,Tryz.ntmps222
 go_wp2_with (go_at_call 230;refine (keep_dec _ _ _).mono ?_;rintro e w' ⟨rfl,rfl⟩)
 go_ret;exact ⟨ret_u64 hx.out,by rw [hx.out]⟩
end Rl
end
section
open Go.RowKit Go.Shelf
namespace Rl
open Mem Pk Fl Bd
theorem take_next (l:List Nat) (k:Nat) (h:k < l.length):l.take (k + 1) = l.take k ++ [l[k]?.getD 0]:=by
 rw [List.take_succ_eq_append_getElem h,List.getElem?_eq_getElem h]
 rfl
theorem getD_lt {l:List Nat} (h:∀ b ∈ l,b < 2 * S) {k:Nat} (hk:k < l.length):l[k]?.getD 0 < 2 * S:=by
 rw [List.getElem?_eq_getElem hk];exact h _ (List.getElem_mem hk)
theorem S_pos:0 < 2 * S:=by decide
theorem lastR_take {l:List Nat} (h:∀ b ∈ l,b < 2 * S) (k:Nat):lastR 0 (l.take k) < 2 * S:=lastR_lt _ 0 S_pos (fun b hb => h b (List.mem_of_mem_take hb))
structure EncAt (w:World) (l:List Nat) (k:Nat) (W:World):Prop where
 keep:W.heap[w.heap.size]? = some (keepO 181)
 last:W.heap[w.heap.size + 1]? = some (lastO (lastR 0 (l.take k)))
 build:∃ p v,(p = .pointer none ∨ p = .pointer (some ⟨w.heap.size + 2,0,none⟩)) ∧ W.heap[w.heap.size + 2]? = some (bd p v) ∧ Own8 W (w.heap.size + 3) v (encR 0 (l.take k))
 bel:Below w.heap.size w W
 size:w.heap.size + 3 ≤ W.heap.size
theorem encode_any (v:Value) (l:List Nat) (w:World) (hv:Flts w v l) (hl:l.length ≤ 1000) :
  Calls Tryz.prog 138 #[v] w fun e w' => e = .returned (.string (str (encR 0 l))) ∧ Below w.heap.size w w':=by
 have HV:=hid hv;have HB:=hid hv.bound;obtain ⟨⟨a,cap,rfl,-,hcells⟩,-⟩:=hv;have HC:=hid hcells;clear hcells;go_enter Tryz.func138,Tryz.ntmps138;go_wp2_with fail;refine (chain_any _ _).mono ?_
 rintro e w1 ⟨rfl,h1,h2,h3,h4⟩;have HE:Hid (EncAt w l 0 (w1.alloc (bd (.pointer none) (.slice none 0 0)))):=hid
  ⟨alloc_at _ h1,alloc_at _ h2,⟨.pointer none,.slice none 0 0,.inl rfl,by rw [← h3];exact alloc_new _ _,own8_nil _ _⟩,h4.alloc h4.size _,by simp;omega⟩
 clear h1 h2 h4;replace h3:=hid h3;go_wp2_with fail;rw [h3.out]
 go_loopw [10] (fun i wr => ∃ k:Nat,i = .int .i64 k ∧ k ≤ l.length ∧ Hid (EncAt w l k wr)) (fun i _ => l.length - (intOf i).toNat)
 case atStart => exact ⟨0,rfl,by omega,HE⟩
 case round =>
  clear h3 HE;obtain ⟨k,rfl,hk,HE⟩:=hrel
  by_cases hlt:k < l.length
  ·obtain ⟨cb,off,rfl,hcb,hcell⟩:=HC.out (by omega)
   have hck:wr.cell? ⟨cb,off + k,none⟩ = some (.float .f64 (l[k]?.getD 0)):=(HE.out.bel.cell (p:=⟨cb,off + k,none⟩) hcb).trans (hcell k hlt)
   have hlt':(k:Int) < l.length:=by omega
   have hc:=getD_lt HB.out hlt;have hL:=lastR_take HB.out k
   have hel:(encR 0 (l.take k)).length ≤ 10000:=by have:=encR_len (l.take k) 0;rw [List.length_take] at this;omega
   have HT1:=hid (show encR 0 (l.take (k + 1)) = _ by rw [take_next l k hlt,encR_snoc]);have HT2:=hid (show lastR 0 (l.take (k + 1)) = _ by rw [take_next l k hlt,lastR_snoc]);obtain ⟨hA,hA2,⟨p,v0,hp,hA3,hA4⟩,hA5,hA6⟩:=HE.out;replace hA:=hid hA;replace hA2:=hid hA2;replace hA3:=hid hA3;replace hA4:=hid hA4;replace hA5:=hid hA5;clear hcell hlt HE;have hcan:=canon_lt hc;generalize lastR 0 (l.take k) = L at *;generalize encR 0 (l.take k) = E at *;generalize l[k]?.getD 0 = c at *;have HN:Hid (swapN (canon c ^^^ L) < W64):=hid (swap_lt (xor_lt hcan hL))
   have hpl:=putL_length (swapN (canon c ^^^ L));go_wp2_with fail;refine (bits_any c _ hc).mono ?_
   rintro e w2 ⟨rfl,hb2⟩;have hK2:=hid (below_at hb2 hA.out (by omega));have hL2:=hid (below_at hb2 hA2.out (by omega));have hB2:=hid (below_at hb2 hA3.out (by omega));have k2:=hid (Kept.of_below (T:=fun _ => False) hb2);have hs2:=hb2.size;clear hb2;go_wp2_with fail;refine (next_enc _ _ _ _ _ hK2.out hL2.out hcan hL).mono ?_
   rintro e w3 ⟨rfl,rfl⟩;have hK3:=hid (set_other (p:=⟨w.heap.size + 1,0,none⟩) hK2.out (show w.heap.size ≠ w.heap.size + 1 by omega) (.int .u64 ((canon c:Nat):Int)));have hL3:=hid ((set_at hL2.out 0 (.int .u64 ((canon c:Nat):Int))).trans (show some _ = some (lastO (canon c)) from rfl));have hB3:=hid (set_other (p:=⟨w.heap.size + 1,0,none⟩) hB2.out (show w.heap.size + 2 ≠ w.heap.size + 1 by omega) (.int .u64 ((canon c:Nat):Int)))
   have k3:=hid (k2.out.mono (T':=fun i => i = w.heap.size + 1) (fun _ _ h => h.elim) |>.setCell (p:=⟨w.heap.size + 1,0,none⟩) (fun _ => rfl) (.int .u64 ((canon c:Nat):Int)));have hs3:wr.heap.size ≤ (w2.setCell ⟨w.heap.size + 1,0,none⟩ (.int .u64 ((canon c:Nat):Int))).heap.size:=k3.out.size;clear k2 hK2 hL2 hB2;generalize w2.setCell ⟨w.heap.size + 1,0,none⟩ (.int .u64 ((canon c:Nat):Int)) = w3 at *;go_wp2_with fail;refine (swap_any _ _ (xor_lt hcan hL)).mono ?_
   rintro e w4 ⟨rfl,rfl⟩;go_wp2_with fail;refine (put_any _ _ HN.out).mono ?_
   rintro e w4 ⟨rfl,hb4⟩;have hK4:=hid (below_at hb4 hK3.out (by omega));have hL4:=hid (below_at hb4 hL3.out (by omega));have hB4:=below_at hb4 hB3.out (by omega);have k4:=k3.out.below hb4;have hO4:Own8 w4 (w.heap.size + 3) v0 E:=own8_kept k4 hA4.out (fun i hi h => by omega);have hs4:=k4.size;have HW:=hid (wstr_any (w.heap.size + 2) (w.heap.size + 3) p v0 hp E (str (putL (swapN (canon c ^^^ L)))) w4 hB4 hO4 (by omega) (by omega) (by omega) (by rw [str_size];omega));replace k4:=hid k4;clear hb4 hK3 hL3 hB3 k3 hB4 hO4;go_wp2_with fail;refine HW.out.mono ?_
   rintro e w5 ⟨rfl,⟨v5,hB5,hO5⟩,k5,-⟩;rw [str_data,← HT1.out] at hO5;have hK5:=k5.at hK4.out (by omega);have hL5:=k5.at hL4.out (by omega);rw [← HT2.out] at hL5;have k6:=(k4.out.mono (T':=fun i => w.heap.size < i) (fun i _ h => by omega)).trans (k5.mono (T':=fun i => w.heap.size < i) (fun i _ h => by omega));have HF:Hid (EncAt w l (k + 1) w5):=hid ⟨hK5,hL5,⟨_,v5,.inr rfl,hB5,hO5⟩,hA5.out.trans (k6.to_below hA5.out.size (fun i hi h => by omega)),by have:=k6.size;omega⟩;clear hK4 hL4 k4 k5 k6 hB5 hO5 hK5 hL5 HW hA hA2 hA3 hA4 hA5;go_wp2_with fail
   go_roundw
   case rel => exact ⟨k + 1,by go_num,by omega,HF⟩
   case measure => simp [intOf];omega
  ·obtain rfl:k = l.length:=by omega
   have hge:decide (l.length < l.length) = false:=decide_eq_false hlt;obtain ⟨-,-,⟨p,v0,hp,hA3,hA4⟩,hA5,hA6⟩:=HE.out;rw [List.take_of_length_le (Nat.le_refl _)] at hA4;have HS:=hid (Tryz.Builder_String_any_k (w.heap.size + 2) (w.heap.size + 2) _ _ (Lib.IsBuilderF.of (builder_of hp hA3 hA4 (by omega))) (by omega));replace hA5:=hid hA5;clear hlt HE hA3 hA4;go_wp2_with fail;refine HS.out.mono ?_
   rintro e' w4 ⟨rfl,-,hb4,-⟩;go_wp2_with fail;go_ret;exact ⟨rfl,hA5.out.trans (hb4.mono (by omega))⟩
end Rl
end
section
open Go.RowKit
namespace Rl
open Mem Pk Fl
structure RAt (s:ByteArray) (N k:Nat) (t:ByteArray) (L:Nat) (out:List Nat):Prop where
 eq:rdR N s 0 = ((rdR (N - k) t L).1,out.map canon ++ (rdR (N - k) t L).2)
 len:out.length = k
 size:t.size ≤ s.size
 bound:∀ b ∈ out,b < 2 * S
 last:L < 2 * S
theorem RAt.start (s:ByteArray) (N:Nat):RAt s N 0 s 0 []:=⟨rfl,rfl,Nat.le_refl _,fun _ h => by simp at h,S_pos⟩
theorem RAt.next {s t:ByteArray} {N k L b:Nat} {out:List Nat} (h:RAt s N k t L out) (hk:k < N) (he:numE t 0 = 0) (hc:canonB (swapN (numN t 0) ^^^ L) = true) (hb:b < 2 * S) (hcb:canon b = canon (swapN (numN t 0) ^^^ L)) :
  RAt s N (k + 1) (rest t (numK t 0)) (swapN (numN t 0) ^^^ L) (out ++ [b]):=by
 have hN:N - k = (N - (k + 1)) + 1:=by omega
 have e1:rdR (N - k) t L = ((rdR (N - (k + 1)) (rest t (numK t 0)) (swapN (numN t 0) ^^^ L)).1,(swapN (numN t 0) ^^^ L) :: (rdR (N - (k + 1)) (rest t (numK t 0)) (swapN (numN t 0) ^^^ L)).2):=by
  rw [hN,rdR,if_neg (by rw [he];simp),if_neg (by rw [hc];simp)]
 refine ⟨?_,by rw [List.length_append,h.len];rfl,by rw [rest_size];have:=h.size;omega,fun n hn => ?_,xor_lt (swap_lt (numN_lt t 0)) h.last⟩
 ·rw [h.eq,e1,List.map_append,List.append_assoc]
  show _ = (_,_ ++ ([canon b] ++ _))
  rw [hcb,canonB_true hc]
  rfl
 ·rw [List.mem_append,List.mem_singleton] at hn
  rcases hn with hn | rfl
  ·exact h.bound n hn
  ·exact hb
theorem RAt.cut {s t:ByteArray} {N k L:Nat} {out:List Nat} (h:RAt s N k t L out) (hk:k < N) (he:numE t 0 ≠ 0):(rdR N s 0).1 = numE t 0:=by
 have hN:N - k = (N - (k + 1)) + 1:=by omega
 rw [h.eq,hN,rdR,if_pos he]
theorem RAt.bad {s t:ByteArray} {N k L:Nat} {out:List Nat} (h:RAt s N k t L out) (hk:k < N) (he:numE t 0 = 0) (hc:canonB (swapN (numN t 0) ^^^ L) = false):(rdR N s 0).1 = 5:=by
 have hN:N - k = (N - (k + 1)) + 1:=by omega
 rw [h.eq,hN,rdR,if_neg (by rw [he];simp),if_pos hc]
theorem RAt.whole {s t:ByteArray} {N L:Nat} {out:List Nat} (h:RAt s N N t L out):rdR N s 0 = (doneE t 0,out.map canon):=by
 rw [h.eq,Nat.sub_self,rdR,List.append_nil]
def DecR (s:ByteArray) (n:Int) (w:World) (e:Ending) (w':World):Prop:=
 (∃ r L,e = .returned (.tuple #[r,.int .i64 (decRE s n)]) ∧ Flts w' r L ∧ L.map canon = decRL s n) ∧ Below w.heap.size w w'
theorem DecR.early {s:ByteArray} {n c:Int} {w w':World} (h:decRE s n = c) (h0:decRL s n = []) (hb:Below w.heap.size w w'):DecR s n w (.returned (.tuple #[.slice none 0 0,.int .i64 c])) w':=
 ⟨⟨.slice none 0 0,[],by rw [h],flts_nil _,h0.symm⟩,hb⟩
theorem dec_parts {s:ByteArray} {N:Nat} (h:¬ (s.size:Int) < (N:Int)):decRE s N = (rdR N s 0).1 ∧ ((rdR N s 0).1 ≠ 0 → decRL s N = []) ∧ ((rdR N s 0).1 = 0 → decRL s N = (rdR N s 0).2):=by
 have h0:¬ (N:Int) < 0:=by omega
 unfold decRE decRL;rw [if_neg h0,if_neg h,if_neg h0,if_neg h,Int.toNat_natCast];exact ⟨rfl,fun h => if_neg h,fun h => if_pos h⟩
theorem ownF_kept {T:Nat → Prop} {w w':World} {B:Nat} {v:Value} {l:List Nat} (k:Kept T w w') (h:OwnF w B v l) (hT:∀ k,B ≤ k → ¬ T k):OwnF w' B v l:=by
 refine ⟨h.1,?_⟩
 rcases h.2 with h2 | ⟨g,cap,cur,ev,hg,hh,r⟩
 ·exact .inl h2
 ·exact .inr ⟨g,cap,cur,ev,hg,k.at hh (hT g hg),r⟩
theorem decode_any (s:ByteArray) (n:Int) (w:World) (hs:s.size ≤ 10000) :
  Calls Tryz.prog 212 #[.string s,.int .i64 n] w (DecR s n w):=by
 obtain ⟨i0,hi,hz0,hz1,hz2⟩:=info_parts infoF
 by_cases h0:n < 0
 ·have hE:=hid (DecR.early (s:=s) (n:=n) (c:=1) (w:=w) (w':=w) (by unfold decRE;rw [if_pos h0]) (by unfold decRL;rw [if_pos h0]) (Below.refl _ _))
  have hd:decide (n < 0) = true:=decide_eq_true h0;clear h0;go_enter Tryz.func212,Tryz.ntmps212;go_wp2_with fail;go_ret2;exact hE.out
 ·have hd:decide (n < 0) = false:=decide_eq_false h0
  by_cases h1:(s.size:Int) < n
  ·have hE:=hid (DecR.early (s:=s) (n:=n) (c:=2) (w:=w) (w':=w) (by unfold decRE;rw [if_neg h0,if_pos h1]) (by unfold decRL;rw [if_neg h0,if_pos h1]) (Below.refl _ _))
   have hd1:decide ((s.size:Int) < n) = true:=decide_eq_true h1;have hd2:decide (n > (s.size:Int)) = true:=decide_eq_true h1;clear h0 h1;go_enter Tryz.func212,Tryz.ntmps212;go_wp2_with fail;go_ret2;exact hE.out
  ·have hd1:decide ((s.size:Int) < n) = false:=decide_eq_false h1
   have hd2:decide (n > (s.size:Int)) = false:=decide_eq_false h1;obtain ⟨N,rfl⟩:∃ N:Nat,n = (N:Int):=⟨n.toNat,by omega⟩;have HD:=hid (dec_parts h1)
   have hN:N ≤ s.size:=by omega
   have hd3:decide (s.size < N) = false:=decide_eq_false (by omega);clear h0 h1;go_enter Tryz.func212,Tryz.ntmps212;go_wp2_with fail;refine (chain_any _ _).mono ?_
   rintro e w1 ⟨rfl,h1,h2,h3,h4⟩;replace h1:=hid h1;replace h2:=hid h2;replace h3:=hid h3;replace h4:=hid h4;go_wp2_with fail;refine (new_any s _).mono ?_
   rintro e w' ⟨rfl,rfl⟩;rw [h3.out];have hA:Hid ((w1.alloc (rd s 0)).heap[w.heap.size + 2]? = some (rd s 0)):=hid (by rw [← h3.out];exact alloc_new w1 (rd s 0));have hK0:=hid (alloc_at (rd s 0) h1.out);have hL0:=hid (alloc_at (rd s 0) h2.out);have hb0:Hid (Below w.heap.size w (w1.alloc (rd s 0))):=hid (h4.out.alloc h4.out.size _)
   have hz0':w.heap.size + 3 ≤ (w1.alloc (rd s 0)).heap.size:=by have:=h3.out;simp;omega
   clear h1 h2 h4 h3;go_wp2_with fail;generalize w1.alloc (rd s 0) = w0 at *;clear hd hd1 hd2 hd3
   go_loopw [8,24] (fun v i wr => ∃ (k:Nat) (t:ByteArray) (L:Nat) (out:List Nat),i = .int .i64 k ∧ k ≤ N ∧ Hid (RAt s N k t L out) ∧ Hid (wr.heap[w.heap.size]? = some (keepO 230)) ∧ Hid (wr.heap[w.heap.size + 1]? = some (lastO L)) ∧ Hid (wr.heap[w.heap.size + 2]? = some (rd t 0)) ∧ Hid (OwnF wr (w.heap.size + 3) v out) ∧ Hid (Below w.heap.size w wr) ∧ w.heap.size + 3 ≤ wr.heap.size) (fun _ i _ => N - (intOf i).toNat)
   case atStart => exact ⟨0,s,0,[],rfl,by omega,hid (RAt.start s N),hK0,hL0,hA,hid (ownF_nil _ _),hb0,hz0'⟩
   case round =>
    clear hK0 hL0 hA hb0 hz0';obtain ⟨k,t,L,out,rfl,hk,hR,hK,hL,hH,hO,hb,hz⟩:=hrel
    by_cases hlt:k < N
    ·have hlt':(k:Int) < (N:Int):=by omega
     have hlen:=hR.out.len;have hts:=hR.out.size;have hLb:=hR.out.last;have HI:=hid (num_any (w.heap.size + 2) t 0 wr hH.out (by omega));have hnl:numN t 0 < 2 * S:=numN_lt t 0;have hul:=xor_lt (swap_lt hnl) hLb;go_wp2_with fail;refine HI.out.mono ?_
     rintro e' w2 ⟨rfl,k1,k2⟩;have hK2:=hid (k2.at hK.out (by omega));have hL2:=hid (k2.at hL.out (by omega));have hO2:=hid (ownF_kept k2 hO.out (fun k hk h => by subst h;omega));have hb2:=hid (hb.out.trans (k2.to_below (B:=w.heap.size) hb.out.size (fun k hk h => by omega)));have hs2:=k2.size;replace k1:=hid k1;clear hK hL hH hO hb HI k2;go_wp2_with fail;refine (swap_any _ _ hnl).mono ?_
     rintro e' w3 ⟨rfl,rfl⟩;go_wp2_with fail;refine (next_dec _ _ _ _ _ hK2.out hL2.out (swap_lt hnl) hLb).mono ?_
     rintro e' w3 ⟨rfl,rfl⟩;obtain ⟨U,hU⟩:∃ U,swapN (numN t 0) ^^^ L = U:=⟨_,rfl⟩;rw [hU] at hul ⊢;have hK3:=hid (set_other (p:=⟨w.heap.size + 1,0,none⟩) hK2.out (show w.heap.size ≠ w.heap.size + 1 by omega) (.int .u64 ((U:Nat):Int)));have hL3:=hid ((set_at hL2.out 0 (.int .u64 ((U:Nat):Int))).trans (show some _ = some (lastO U) from rfl));have hH3:=hid (set_other (p:=⟨w.heap.size + 1,0,none⟩) k1.out (show w.heap.size + 2 ≠ w.heap.size + 1 by omega) (.int .u64 ((U:Nat):Int)))
     have k3:=(Kept.refl (fun i => i = w.heap.size + 1) w2).setCell (p:=⟨w.heap.size + 1,0,none⟩) (fun _ => rfl) (.int .u64 ((U:Nat):Int));have hO3:=hid (ownF_kept k3 hO2.out (fun k hk h => by subst h;omega));have hb3:=hid (hb2.out.trans (k3.to_below (B:=w.heap.size) hb2.out.size (fun k hk h => by omega)));have hs3:=k3.size;clear hK2 hL2 k1 k3 hO2 hb2;generalize w2.setCell ⟨w.heap.size + 1,0,none⟩ (.int .u64 ((U:Nat):Int)) = w1' at *;obtain ⟨w1,rfl⟩:∃ w1,w1 = w1':=⟨_,rfl⟩;replace hU:=hid hU;go_wp2_with fail
     refine (err_any _ _ _ _ hH3.out).mono ?_
     rintro e' w4 ⟨rfl,rfl⟩
     by_cases he:numE t 0 = 0
     ·have hne:(numE t 0 != 0) = false:=by rw [he];rfl
      by_cases hc:canonB U = true
      ·have hnx:=hid (fun (b:Nat) (hb:b < 2 * S) (hcb:canon b = canon U) => hR.out.next hlt he (by rw [hU.out];exact hc) hb (by rw [hU.out];exact hcb))
       rw [hU.out] at hnx;rw [he] at hne hH3 ⊢;clear hR hlt he hU;have HC:=hid (canon_any U w1 hul);rw [hc] at HC;clear hc;generalize rest t (numK t 0) = t2 at *;go_wp2_with fail;refine HC.out.mono ?_
       rintro e' w4 ⟨rfl,rfl⟩;go_wp2_with fail;refine (float_any U _ hul).mono ?_
       rintro e' w4 ⟨⟨b,rfl,hbl,hcb,-,-⟩,hb4⟩;have hnx2:=hid (hnx.out b hbl hcb);have hK4:=hid (below_at hb4 hK3.out (by omega));have hL4:=hid (below_at hb4 hL3.out (by omega));have hH4:=hid (below_at hb4 hH3.out (by omega));have hO1:w4.ownsRow (w.heap.size + 3) 47 1 _ out.length (cellsF out):=ownF_kept (Kept.of_below (T:=fun _ => False) hb4) hO3.out (fun _ _ h => h);have hb4':=hid (hb3.out.trans (hb4.mono hb3.out.size));have hs4:=hb4.size;clear hnx hcb hb4 hK3 hL3 hH3 hO3 hb3 HC;obtain ⟨w1,rfl⟩:∃ w1,w1 = w4:=⟨_,rfl⟩
       go_wp2_with (at_builtin;refine wpList_append_own _ rfl _ _ 164 rfl (w.heap.size + 3) 47 i0 (.float .f64 0) 1 8 Tryz.underlying164 hi hz0 hz1 hz2 rfl (by decide) _ _ _ rfl (hO1.alloc _) ⟨w1.heap.size,0,none⟩ 1 1 [.float .f64 b] rfl rfl (cell_one_new _ _ _) (one_float _) (by unfold maxLen;omega) (by omega) (by simp;omega) ?_;intro v' w3 hown hgrow _)
       have hO5:OwnF w3 (w.heap.size + 3) v' (out ++ [b]):=ownF_snoc hown
       have hblk:∀ j,j < w.heap.size + 3 → w3.heap[j]? = (w1.alloc (.cells #[.float .f64 b] 47)).heap[j]?:=fun j hj => hgrow.block _ (by simp;omega) (fun e => by have:=(hO1.lt _ e.symm).1;omega)
       have hK5:=hid ((hblk _ (by omega)).trans (alloc_at _ hK4.out));have hL5:=hid ((hblk _ (by omega)).trans (alloc_at _ hL4.out));have hH5:=hid ((hblk _ (by omega)).trans (alloc_at _ hH4.out));have hK6:Kept (fun k => w.heap.size + 3 ≤ k) w1 w3:=((Kept.refl _ w1).alloc _).grown hgrow (fun k er _ => (hO1.lt k er).1);have hB:=hid (hb4'.out.trans (hK6.to_below (B:=w.heap.size) hb4'.out.size (fun k hk h => by omega)));have hs5:=hK6.size;clear hown hgrow hO1 hK6 hblk hK4 hL4 hH4;go_wp2_with fail
       go_roundw
       case rel => exact ⟨k + 1,t2,U,_,by go_num,by omega,hnx2,hK5,hL5,hH5,hid hO5,hB,by omega⟩
       case measure => simp [intOf];omega
      ·have hcf:canonB U = false:=by cases h:canonB U with | true => exact absurd h hc | false => rfl
       have hE:=hid (hR.out.bad hlt he (by rw [hU.out];exact hcf));have hP:=hid (DecR.early (c:=5) (HD.out.1.trans hE.out) (HD.out.2.1 (by rw [hE.out];decide)) hb3.out);rw [he];have HC:=hid (canon_any U w1 hul);rw [hcf] at HC;clear hR hE he hc hcf hne HD hU;go_wp2_with fail;refine HC.out.mono ?_
       rintro e' w4 ⟨rfl,rfl⟩;go_wp2_with fail;go_ret2;exact hP.out
     ·have hne:(numE t 0 != 0) = true:=by rw [bne_iff_ne];exact he
      have hE:=hid (hR.out.cut hlt he);have hP:=hid (DecR.early (HD.out.1.trans hE.out) (HD.out.2.1 (by rw [hE.out];exact he)) hb3.out);clear hR hE he HD hU;generalize numE t 0 = E at *;go_wp2_with fail;go_ret2;exact hP.out
    ·obtain rfl:k = N:=by omega
     have hge:decide (k < k) = false:=decide_eq_false hlt;have hw:=hid hR.out.whole;have hI:=hid (hO.out.flts hR.out.bound);have HDn:=hid (done_any (w.heap.size + 2) t 0 wr hH.out);clear hlt hR hO
     by_cases hc:doneE t 0 = 0
     ·have hP:Hid (decRE s k = 0 ∧ decRL s k = out.map canon):=hid (by
       have h1:(rdR k s 0).1 = 0:=by rw [hw.out];exact hc
       exact ⟨HD.out.1.trans h1,by rw [HD.out.2.2 h1,hw.out]⟩)
      rw [hc] at HDn;clear hc HD hw;go_wp2_with fail;refine HDn.out.mono ?_
      rintro e' w2 ⟨rfl,rfl⟩;go_wp2_with fail;go_ret2;exact ⟨⟨_,out,by rw [hP.out.1];rfl,hI.out,hP.out.2.symm⟩,hb.out⟩
     ·have hne:(doneE t 0 != 0) = true:=by rw [bne_iff_ne];exact hc
      have hP:Hid (DecR s k w (.returned (.tuple #[.slice none 0 0,.int .i64 (doneE t 0)])) wr):=hid (by
       have h1:(rdR k s 0).1 = doneE t 0:=by rw [hw.out]
       exact DecR.early (HD.out.1.trans h1) (HD.out.2.1 (by rw [h1];exact hc)) hb.out)
      clear hc HD hw;generalize doneE t 0 = E at *;go_wp2_with fail;refine HDn.out.mono ?_
      rintro e' w2 ⟨rfl,rfl⟩;go_wp2_with fail;go_ret2;exact hP.out
end Rl
end
section
open Go.RowKit
namespace Rl
open Mem Pk Fl
theorem head_num {t:ByteArray} {n:Nat} {l:List UInt8} (hn:n < W64) (h:t.data.toList = putL n ++ l):numN t 0 = n ∧ numE t 0 = 0 ∧ (rest t (numK t 0)).data.toList = l:=by
 have e:=read_put hn l;rw [← h] at e;have e1:numN t 0 = (numR t.data.toList).2.1:=rfl;have e2:numE t 0 = (numR t.data.toList).1:=rfl;have e3:numK t 0 = (numR t.data.toList).2.2:=rfl;rw [e1,e2,rest_list,e3,e,h];exact ⟨rfl,rfl,by simp⟩
theorem xor_back (a b:Nat):a ^^^ b ^^^ b = a:=by rw [Nat.xor_assoc,Nat.xor_self,Nat.xor_zero]
theorem rd_encR (l:List Nat) (h:∀ b ∈ l,b < 2 * S):∀ (p:Nat) (s:ByteArray),p < 2 * S → s.data.toList = encR p l → rdR l.length s p = (0,l.map canon):=by
 induction l with
 | nil =>
  intro p s _ hs
  have hz:s.size = 0:=by rw [← size_list,hs];rfl
  have hd:doneE s 0 = 0:=by unfold doneE;rw [if_neg (fun h => h.2 hz)]
  rw [List.length_nil,rdR,hd]
  rfl
 | cons b l ih =>
  intro p s hp hs;have hb:=canon_lt (h b List.mem_cons_self);rw [encR] at hs;have hx:=xor_lt hb hp;obtain ⟨e1,e2,e3⟩:=head_num (swap_lt hx) hs
  have hu:swapN (numN s 0) ^^^ p = canon b:=by rw [e1,swap_swap hx,xor_back]
  rw [List.length_cons,rdR,hu,if_neg (by rw [e2];simp),if_neg (by rw [canonB_canon];simp),ih (fun c hc => h c (List.mem_cons_of_mem _ hc)) _ _ hb e3]
  rfl
theorem dec_encR {l:List Nat} (h:∀ b ∈ l,b < 2 * S):decRE (str (encR 0 l)) l.length = 0 ∧ decRL (str (encR 0 l)) l.length = l.map canon:=by
 have hle:¬ (((str (encR 0 l)).size:Int) < (l.length:Int)):=by
  have:=encR_ge l 0;rw [str_size];omega
 have hr:=rd_encR l h 0 (str (encR 0 l)) S_pos (by rw [str_data]);obtain ⟨h1,-,h3⟩:=dec_parts hle;rw [hr] at h1 h3;exact ⟨h1,h3 rfl⟩
end Rl
end
section
namespace Fg
open Mem Pk
def cntW (b:Bool) (l:List Bool):Nat:=(l.takeWhile (fun x => x == b)).length
def lensF:Nat → Bool → List Bool → List Nat
 | 0,_,_ => []
 | f + 1,b,l => if l = [] then [] else cntW b l :: lensF f (!b) (l.drop (cntW b l))
def lens (l:List Bool):List Nat:=lensF (l.length + 1) false l
def expand:Bool → List Nat → List Bool
 | _,[] => []
 | b,n :: t => List.replicate n b ++ expand (!b) t
def encL (ns:List Nat):List UInt8:=ns.flatMap putL
def encFlags (l:List Bool):List UInt8:=encL (lens l)
theorem cnt_le (b:Bool) (l:List Bool):cntW b l ≤ l.length:=by unfold cntW;exact (List.takeWhile_prefix _).length_le
theorem take_cnt (b:Bool) (l:List Bool):l.take (cntW b l) = List.replicate (cntW b l) b:=by
 induction l with
 | nil => rfl
 | cons x l ih =>
  by_cases h:x = b
  ·subst h
   have e:cntW x (x :: l) = cntW x l + 1:=by unfold cntW;simp
   rw [e,List.take_succ_cons,ih,List.replicate_succ]
  ·have e:cntW b (x :: l) = 0:=by unfold cntW;simp [h]
   rw [e];rfl
theorem head_cnt (b:Bool) (l:List Bool):(l.drop (cntW b l)).head? = some (!b) ∨ l.drop (cntW b l) = []:=by
 induction l with
 | nil => exact .inr rfl
 | cons x l ih =>
  by_cases h:x = b
  ·subst h
   have e:cntW x (x :: l) = cntW x l + 1:=by unfold cntW;simp
   rw [e,List.drop_succ_cons];exact ih
  ·have e:cntW b (x :: l) = 0:=by unfold cntW;simp [h]
   rw [e];refine .inl ?_
   cases x <;> cases b <;> simp_all
theorem cnt_pos {b:Bool} {l:List Bool} (h:l.head? = some b):1 ≤ cntW b l:=by
 cases l with
 | nil => cases h
 | cons x l =>
  simp only [List.head?_cons,Option.some.injEq] at h;subst h;unfold cntW;simp
def Fuel (f:Nat) (b:Bool) (l:List Bool):Prop:=l.length < f ∨ (l.length ≤ f ∧ l.head? = some b) ∨ l = []
theorem Fuel.step {f:Nat} {b:Bool} {l:List Bool} (h:Fuel (f + 1) b l) (hl:l ≠ []):Fuel f (!b) (l.drop (cntW b l)):=by
 rcases head_cnt b l with h1 | h1
 ·have hc:=cnt_le b l
  have hd:(l.drop (cntW b l)).length = l.length - cntW b l:=List.length_drop
  rcases h with h | ⟨h,h2⟩ | h
  ·exact .inr (.inl ⟨by omega,h1⟩)
  ·have:=cnt_pos h2
   exact .inr (.inl ⟨by omega,h1⟩)
  ·exact absurd h hl
 ·exact .inr (.inr h1)
theorem lens_fuel (f:Nat):∀ (b:Bool) (l:List Bool),Fuel f b l →
  expand b (lensF f b l) = l ∧ (∀ i n,(0 < i ∨ l.head? = some b) → (lensF f b l)[i]? = some n → 1 ≤ n) ∧ (lensF f b l).sum = l.length ∧ (lensF f b l).length ≤ f:=by
 induction f with
 | zero =>
  intro b l h
  have:l = []:=by
   rcases h with h | ⟨h,h2⟩ | h
   ·omega
   ·cases l with
    | nil => rfl
    | cons _ _ => simp at h
   ·exact h
  subst this;exact ⟨rfl,fun i n _ h => by simp [lensF] at h,rfl,Nat.le_refl _⟩
 | succ f ih =>
  intro b l h
  by_cases hl:l = []
  ·subst hl
   exact ⟨by simp [lensF,expand],fun i n _ h => by simp [lensF] at h,by simp [lensF],by simp [lensF]⟩
  ·obtain ⟨h1,h2,h3,h4⟩:=ih (!b) (l.drop (cntW b l)) (h.step hl)
   have e:lensF (f + 1) b l = cntW b l :: lensF f (!b) (l.drop (cntW b l)):=by rw [lensF,if_neg hl]
   rw [e];refine ⟨?_,fun i n hi hn => ?_,?_,by simp;exact h4⟩
   ·rw [expand,h1,← take_cnt,List.take_append_drop]
   ·cases i with
    | zero =>
     simp only [List.getElem?_cons_zero,Option.some.injEq] at hn;subst hn
     rcases hi with hi | hi
     ·omega
     ·exact cnt_pos hi
    | succ i =>
     rw [List.getElem?_cons_succ] at hn
     rcases head_cnt b l with hh | hh
     ·exact h2 i n (.inr hh) hn
     ·rw [hh] at hn
      cases f with
      | zero => simp [lensF] at hn
      | succ f => simp [lensF] at hn
   ·rw [List.sum_cons,h3,List.length_drop]
    have:=cnt_le b l;omega
theorem lens_spec (l:List Bool):expand false (lens l) = l ∧ (∀ i n,0 < i → (lens l)[i]? = some n → 1 ≤ n) ∧ (lens l).sum = l.length ∧ (lens l).length ≤ l.length + 1 ∧ lens l ≠ [0]:=by
 obtain ⟨h1,h2,h3,h4⟩:=lens_fuel (l.length + 1) false l (.inl (by omega));refine ⟨h1,fun i n hi => h2 i n (.inl hi),h3,h4,fun e => ?_⟩
 have e':lensF (l.length + 1) false l = [0]:=e;rw [e'] at h3;have:l = []:=List.eq_nil_of_length_eq_zero h3.symm;subst this
 cases e'
theorem expand_snoc (xs:List Nat) (n:Nat):∀ b,expand b (xs ++ [n]) = expand b xs ++ List.replicate n (b != decide (xs.length % 2 = 1)):=by
 induction xs with
 | nil => intro b;simp [expand]
 | cons x xs ih =>
  intro b;rw [List.cons_append,expand,expand,ih,List.append_assoc]
  congr 3
  rw [List.length_cons]
  rcases Nat.mod_two_eq_zero_or_one xs.length with h | h
  ·rw [decide_eq_false (by omega:¬ xs.length % 2 = 1),decide_eq_true (by omega:(xs.length + 1) % 2 = 1)];cases b <;> rfl
  ·rw [decide_eq_true h,decide_eq_false (by omega:¬ (xs.length + 1) % 2 = 1)];cases b <;> rfl
theorem expand_len (ns:List Nat):∀ b,(expand b ns).length = ns.sum:=by
 induction ns with
 | nil => intro b;rfl
 | cons n ns ih => intro b;rw [expand,List.length_append,List.length_replicate,ih,List.sum_cons]
theorem sum_take {ns:List Nat} {k n:Nat} (h:ns[k]? = some n):(ns.take (k + 1)).sum = (ns.take k).sum + n:=by rw [take_snoc h];simp
theorem sum_take_le (ns:List Nat):∀ k,(ns.take k).sum ≤ ns.sum:=by
 induction ns with
 | nil => intro k;simp
 | cons p r ih =>
  intro k
  cases k with
  | zero => simp
  | succ k =>
   have:=ih k;simp only [List.take_succ_cons,List.sum_cons];omega
theorem encL_take {ns:List Nat} {k n:Nat} (h:ns[k]? = some n):encL (ns.take (k + 1)) = encL (ns.take k) ++ putL n:=by rw [take_snoc h];unfold encL;simp
theorem encL_drop {ns:List Nat} {k n:Nat} (h:ns[k]? = some n):encL (ns.drop k) = putL n ++ encL (ns.drop (k + 1)):=by rw [drop_cons h];rfl
theorem encL_len (ns:List Nat):(encL ns).length ≤ 10 * ns.length:=by
 induction ns with
 | nil => simp [encL]
 | cons n ns ih =>
  have e:encL (n :: ns) = putL n ++ encL ns:=rfl;rw [e,List.length_append,List.length_cons];have:=putL_length n;omega
theorem encL_pos {ns:List Nat} (h:0 < ns.length):0 < (encL ns).length:=by
 cases ns with
 | nil => simp at h
 | cons n ns =>
  have e:encL (n :: ns) = putL n ++ encL ns:=rfl;rw [e,List.length_append];have:=putL_pos n;omega
theorem encFlags_len (l:List Bool):(encFlags l).length ≤ 10 * l.length + 10:=by
 have:=encL_len (lens l);have:=(lens_spec l).2.2.2.1;unfold encFlags;omega
end Fg
end
section
open Go.RowKit Go.Shelf
namespace Fg
open Mem Pk Ck Rn
def TB (b:Nat) (x:Bool) (W:World):Prop:=W.heap[b]? = some (.cells #[.bool x] 4 (0,0))
theorem TB.below {b:Nat} {x:Bool} {W W':World} (h:TB b x W) (k:Below W.heap.size W W'):TB b x W':=(k.block _ (lt_of_block h)).trans h
theorem turns_any (w:World) :
  Calls Tryz.prog 220 #[] w fun e w' => e = .returned (.func (.func 234) #[] #[.pointer (some ⟨w.heap.size,0,none⟩)]) ∧ TB w.heap.size true w' ∧ Below w.heap.size w w' ∧ w'.heap.size = w.heap.size + 1:=by
 have hmf:∀ (fn:Fn) (first cap:Array Value) (w:World),(Instr.makeFunc fn first cap).run Tryz.prog w = .ok (.func fn first cap) w:=fun _ _ _ _ => rfl
 go_enter Tryz.func220,Tryz.ntmps220;go_wp2_with fail;go_ret;exact ⟨rfl,alloc_new w _,(Below.refl _ _).alloc (Nat.le_refl _) _,by simp⟩
theorem turn_any (b:Nat) (x:Bool) (w:World) (h:TB b x w) :
  Calls Tryz.prog 234 #[.pointer (some ⟨b,0,none⟩)] w fun e w' => e = .returned (.bool (!x)) ∧ TB b (!x) w' ∧ Kept (· = b) w w' ∧ w'.heap.size = w.heap.size:=by
 have h0:w.cell? ⟨b,0,none⟩ = some (.bool x):=cell_at h 0;have hf:w.frozen? ⟨b,0,none⟩ = false:=free_at h 0;go_enter Tryz.func234,Tryz.ntmps234;go_wp2_with fail;go_ret;exact ⟨rfl,set_at h 0 _,(Kept.refl (· = b) w).setCell (p:=⟨b,0,none⟩) (fun _ => rfl) _,by simp [World.setCell]⟩
def idxB (x:Bool) (l:List Bool):Int:=if l.findIdx (· == x) < l.length then (l.findIdx (· == x):Nat) else -1
theorem index_any (v:Value) (l:List Bool) (x:Bool) (w:World) (hv:Bools w v l) (hl:l.length ≤ 1000) :
  Calls Tryz.prog 221 #[v,.bool x] w fun e w' => e = .returned (.int .i64 (idxB x l)) ∧ w = w':=by
 obtain ⟨a,cap,rfl⟩:=hv.len;have HV:=hid hv;clear hv;go_enter Tryz.func221,Tryz.ntmps221;go_wp2_with fail
 go_loop [8] (fun i => ∃ k:Nat,i = .int .i64 k ∧ k ≤ l.length ∧ Hid (∀ j y,j < k → l[j]? = some y → (y == x) = false)) (fun i => l.length - (intOf i).toNat)
 case atStart => exact ⟨0,rfl,by omega,hid (fun j y h => by omega)⟩
 case round =>
  obtain ⟨k,rfl,hk,hN⟩:=hrel
  by_cases hlt:k < l.length
  ·have hlt':(k:Int) < (l.length:Nat):=by omega
   obtain ⟨b,off,rfl⟩:=HV.out.addr (by omega);obtain ⟨y,hy⟩:=some_at hlt;have hc:w.cell? ⟨b,off + k,none⟩ = some (.bool y):=sl_one HV.out rfl hy
   by_cases hxy:y = x
   ·have hE:Hid (idxB x l = (k:Int)):=hid (by
     have h1:l.findIdx (· == x) = k:=by
      rw [List.findIdx_eq hlt];obtain ⟨h2,h3⟩:=List.getElem?_eq_some_iff.1 hy;exact ⟨by simp [h3,hxy],fun j hj => hN.out j _ hj (List.getElem?_eq_getElem (by omega))⟩
     unfold idxB
     rw [h1,if_pos hlt])
    subst hxy;clear hy;have hq:(y == y) = true:=beq_self_eq_true y;go_wp2_with fail;go_ret;exact ⟨by rw [hE.out];rfl,rfl⟩
   ·have hq:(x == y) = false:=by rw [beq_eq_false_iff_ne];exact fun e => hxy e.symm
    have hq2:(y == x) = false:=by rw [beq_eq_false_iff_ne];exact hxy
    have hn:Hid (∀ j z,j < k + 1 → l[j]? = some z → (z == x) = false):=hid (fun j z hj hz => by
     by_cases e:j = k
     ·subst e;rw [hy] at hz;cases hz;exact hq2
     ·exact hN.out j z (by omega) hz)
    replace hq2:=hid hq2;clear hy hxy;go_wp2_with fail
    go_round
    case rel => exact ⟨k + 1,by go_num,by omega,hn⟩
    case measure => simp [intOf];omega
  ·obtain rfl:k = l.length:=by omega
   have hge:¬ ((l.length:Int) < (l.length:Nat)):=by omega
   have hE:Hid (idxB x l = -1):=hid (by
    unfold idxB;rw [if_neg];intro h;have h2:=List.findIdx_getElem (w:=h);have h3:=hN.out (l.findIdx (· == x)) _ h (List.getElem?_eq_getElem h);rw [h3] at h2
    cases h2)
   go_wp2_with fail;go_ret;exact ⟨by rw [hE.out];rfl,rfl⟩
theorem idx_cnt (b:Bool) (l:List Bool):idxB (!b) l = if cntW b l < l.length then ((cntW b l:Nat):Int) else -1:=by
 have h:l.findIdx (· == !b) = cntW b l:=by
  induction l with
  | nil => rfl
  | cons x l ih =>
   rw [List.findIdx_cons]
   by_cases hx:x = b
   ·subst hx
    have e:cntW x (x :: l) = cntW x l + 1:=by unfold cntW;simp
    rw [e,ih]
    cases x <;> rfl
   ·have e:cntW b (x :: l) = 0:=by unfold cntW;simp [hx]
    rw [e]
    cases x <;> cases b <;> simp_all
 unfold idxB;rw [h]
theorem sl_drop1 {W:World} {b off n cap k:Nat} {cs:List Value} (h:Sl W (.slice (some ⟨b,off,none⟩) n cap) n cs) (hl:cs.length = n) (hk:k ≤ n):Sl W (.slice (if cap = k then some ⟨b,off,none⟩ else some ⟨b,off + k,none⟩) (n - k) (cap - k)) (n - k) (cs.drop k):=by
 by_cases hck:cap = k
 ·rw [if_pos hck]
  have:=h.cap.1
  have hn:n - k = 0:=by omega
  have hd:cs.drop k = []:=List.drop_eq_nil_of_le (by omega);rw [hn,hd];exact ⟨_,_,rfl,by omega,(fun e => by cases e),fun h => by omega⟩
 ·rw [if_neg hck]
  have hc:=h.cap.1;refine ⟨_,_,rfl,by omega,(fun e => by cases e),fun h0 => ?_⟩
  obtain ⟨h1,h2⟩:=h.at (by omega);refine ⟨b,off + k,rfl,h1,fun j u hu => ?_⟩
  rw [List.getElem?_drop] at hu;rw [Nat.add_assoc];exact h2 _ _ hu
def OwnL (w:World) (B:Nat) (v:Value) (l:List Nat):Prop:=w.ownsRow B 3 1 v l.length (l.map fun n:Nat => i64C n)
theorem infoInt:(Tryz.prog.info? 3).map (fun i => (i.zero,i.size,i.bytes)) = some (some (.int .i64 0),1,8):=by kernel_rfl
theorem one_i64 (n:Int):∀ x ∈ [Value.int .i64 n],x.oneCell' = true:=fun x hx => by simp at hx;subst hx;rfl
theorem ownL_snoc {w:World} {B:Nat} {v:Value} {acc:List Nat} {n:Nat} (h:w.ownsRow B 3 1 v (acc.length + 1) ((acc.map fun n:Nat => i64C n) ++ [.int .i64 (n:Int)])):OwnL w B v (acc ++ [n]):=by
 unfold OwnL;rw [List.map_append,List.length_append,List.length_singleton];exact h
theorem lengths_any (v:Value) (l:List Bool) (w:World) (hv:Bools w v l) (hl:l.length ≤ 1000) :
  Calls Tryz.prog 179 #[v] w fun e w' => (∃ y,e = .returned y ∧ OwnL w' w.heap.size y (lens l)) ∧ Below w.heap.size w w':=by
 obtain ⟨i0,hi,hz0,hz1,hz2⟩:=info_parts infoInt;obtain ⟨a,cap,rfl⟩:=hv.len;have HV:=hid hv;clear hv;go_enter Tryz.func179,Tryz.ntmps179;go_wp2_with fail;refine (turns_any _).mono ?_
 rintro e w1 ⟨rfl,hT,hb,hsz⟩;have hT':=hid hT;have hb':=hid hb;have hlens:Hid (lens l = [] ++ lensF (l.length + 1 - 0) false l):=hid rfl;clear hT hb hsz;go_wp2_with fail
 go_loopw [0,3] (fun s o wr => ∃ (b:Bool) (rest:List Bool) (acc:List Nat),Hid (Bools w s rest) ∧ Hid (OwnL wr (w.heap.size + 1) o acc) ∧ Hid (TB w.heap.size (!b) wr) ∧ Hid (Below w.heap.size w wr) ∧ Hid (lens l = acc ++ lensF (l.length + 1 - acc.length) b rest) ∧ Hid (Fuel (l.length + 1 - acc.length) b rest) ∧ acc.length ≤ l.length + 1 ∧ rest.length ≤ l.length) (fun _ o _ => match o with | .slice _ k _ => l.length + 1 - k | _ => 0)
 case atStart => exact ⟨false,l,[],HV,hid (World.ownsRow_nil _ _ _ _),hT',hb',hlens,hid (.inl (by simp)),by simp,Nat.le_refl _⟩
 case round =>
  clear hT' hb' hlens;obtain ⟨b,rest,acc,hS,hO,hT,hb,hLe,hF,hacc,hrl⟩:=hrel;obtain ⟨a1,c1,rfl⟩:=hS.out.len;obtain ⟨a2,c2,rfl⟩:=(own_sl hO.out).len;have hlo:=hid hO.out.lt;have hwl:=lt_of_block hT.out
  by_cases h0:rest.length = 0
  ·have hnil:rest = []:=List.eq_nil_of_length_eq_zero h0
   subst hnil
   have hE:Hid (lens l = acc):=hid (by
    rw [hLe.out]
    cases h:l.length + 1 - acc.length <;> simp [lensF])
   clear h0;go_wp2_with fail;go_ret;exact ⟨⟨_,rfl,by rw [hE.out];exact own_mono hO.out (by omega)⟩,hb.out⟩
  ·have hne:rest ≠ []:=fun e => h0 (by rw [e];rfl)
   have hpos:(0:Int) < (rest.length:Nat):=by omega
   obtain ⟨f,hf⟩:∃ f,l.length + 1 - acc.length = f + 1:=by
    rcases hF.out with h | ⟨h,-⟩ | h
    ·exact ⟨l.length + 1 - acc.length - 1,by omega⟩
    ·exact ⟨l.length + 1 - acc.length - 1,by omega⟩
    ·exact absurd h hne
   rw [hf] at hF hLe;have hF2:=hid (hF.out.step hne);have hLe2:Hid (lens l = acc ++ [cntW b rest] ++ lensF f (!b) (rest.drop (cntW b rest))):=hid (by rw [hLe.out,lensF,if_neg hne,List.append_assoc];rfl);have hix:=idx_cnt b rest;have hcl:=cnt_le b rest;have hdl:(rest.drop (cntW b rest)).length = rest.length - cntW b rest:=List.length_drop;obtain ⟨bk,off,rfl⟩:=hS.out.addr (by omega);have hsd:=hid (fun (k:Nat) (hk:k ≤ rest.length) => sl_drop1 (k:=k) hS.out (by simp) hk);clear h0 hne hF hLe;go_wp2_with fail;refine (turn_any w.heap.size (!b) wr hT.out).mono ?_
   rintro e w2 ⟨rfl,hT2,k2,hsz2⟩;rw [Bool.not_not] at hT2 ⊢;have hO2:=hid (own_kept hO.out k2 (fun i hi h => by omega));have hb2:=hid (hb.out.trans (k2.to_below (B:=w.heap.size) (by omega) (fun i hi h => by omega)));replace hT2:=hid hT2;have HI:=hid (index_any _ rest (!b) w2 (hS.out.below hb2.out) (by omega));rw [hix] at HI
   have hws:wr.heap.size ≤ w2.heap.size:=by omega
   clear k2 hO hb hT hix hsz2;go_wp2_with fail;refine HI.out.mono ?_
   rintro e w3 ⟨rfl,rfl⟩;have hcc:=hS.out.cap.1
   have hi0:(0:Int) ≤ (cntW b rest:Nat):=by omega
   have hi1:(cntW b rest:Int) ≤ (c1:Nat):=by omega
   have hi3:(rest.length:Int) ≤ (c1:Nat):=by omega
   have hi2:(cntW b rest:Int) ≤ (rest.length:Nat):=by omega
   generalize cntW b rest = m at *
   by_cases hml:m < rest.length
   ·rw [if_pos hml]
    have hcm:¬ c1 = m:=by omega
    have hdd:Hid (Bools w (.slice (some ⟨bk,off + m,none⟩) (rest.length - m) (c1 - m)) (rest.drop m)):=hid (by
     have:=hsd.out m hcl;rw [if_neg hcm] at this;unfold Bools;rw [hdl,List.map_drop]
     exact this)
    go_wp2_with fail
    go_region_held3 (fun W:World => Below 0 W W) (exact Below.refl _ _) ((refine step_append_src (by rfl) (.tmp 21) (.tmp 23) 82 (by rfl) (w.heap.size + 1) 3 i0 (.int .i64 0) 1 8 Tryz.underlying82 hi hz0 hz1 hz2 rfl (by decide) _ acc.length (acc.map fun n:Nat => i64C n) (by rfl) ?_ _ 1 [.int .i64 (m:Int)] (by rfl) rfl ?_ (one_i64 _) (by unfold maxLen;omega) (by omega) ?_ ?_;exact World.ownsRow.alloc hO2.out _;exact src_new (alloc_new w2 _) _;(simp;omega);intro v5 w5 hown hgrow))
    all_goals
     have hOf:=hid (ownL_snoc (n:=m) hown);have hg2:(w2.alloc (.cells #[.int .i64 (m:Int)] 3)).drew.grownBy w5 (Value.slice a2 acc.length c2).ownBlock:=hgrow;have hbf:=hid ((bel_drewN (hb2.out.alloc hb2.out.size (.cells #[.int .i64 (m:Int)] 3)) 1).grown hg2 (by simp;omega) (fun k e => by have:=(hlo.out k e).1;omega));have hTf:Hid (TB w.heap.size b w5):=hid ((hg2.block _ (by simp;omega) (fun e => by have:=(hlo.out _ e.symm).1;omega)).trans (alloc_at _ hT2.out));clear hown hgrow hg2;go_wp2_with fail
     go_roundw
     case rel => exact ⟨!b,rest.drop m,acc ++ [m],hdd,hOf,by rw [Bool.not_not];exact hTf,hbf,by rw [List.length_append,List.length_singleton,show l.length + 1 - (acc.length + 1) = f by omega];exact hLe2,by rw [List.length_append,List.length_singleton,show l.length + 1 - (acc.length + 1) = f by omega];exact hF2,by rw [List.length_append,List.length_singleton];omega,by omega⟩
     case measure =>
      obtain ⟨a9,c9,e9⟩:=(own_sl hOf.out).len;rw [e9,List.length_append,List.length_singleton];simp;omega
   ·rw [if_neg hml]
    obtain rfl:m = rest.length:=by omega
    by_cases hcm:c1 = rest.length
    ·have hdd:Hid (Bools w (.slice (some ⟨bk,off,none⟩) (rest.length - rest.length) (c1 - rest.length)) (rest.drop rest.length)):=hid (by
      have:=hsd.out rest.length hcl;rw [if_pos hcm] at this;unfold Bools;rw [hdl,List.map_drop]
      exact this)
     subst hcm;go_wp2_with fail
     go_region_held3 (fun W:World => Below 0 W W) (exact Below.refl _ _) ((refine step_append_src (by rfl) (.tmp 21) (.tmp 23) 82 (by rfl) (w.heap.size + 1) 3 i0 (.int .i64 0) 1 8 Tryz.underlying82 hi hz0 hz1 hz2 rfl (by decide) _ acc.length (acc.map fun n:Nat => i64C n) (by rfl) ?_ _ 1 [.int .i64 (rest.length:Int)] (by rfl) rfl ?_ (one_i64 _) (by unfold maxLen;omega) (by omega) ?_ ?_;exact World.ownsRow.alloc hO2.out _;exact src_new (alloc_new w2 _) _;(simp;omega);intro v5 w5 hown hgrow))
     all_goals
      have hOf:=hid (ownL_snoc (n:=rest.length) hown);have hg2:(w2.alloc (.cells #[.int .i64 (rest.length:Int)] 3)).drew.grownBy w5 (Value.slice a2 acc.length c2).ownBlock:=hgrow;have hbf:=hid ((bel_drewN (hb2.out.alloc hb2.out.size (.cells #[.int .i64 (rest.length:Int)] 3)) 1).grown hg2 (by simp;omega) (fun k e => by have:=(hlo.out k e).1;omega));have hTf:Hid (TB w.heap.size b w5):=hid ((hg2.block _ (by simp;omega) (fun e => by have:=(hlo.out _ e.symm).1;omega)).trans (alloc_at _ hT2.out));clear hown hgrow hg2;go_wp2_with fail
      rw [Nat.sub_self] at hdd
      go_roundw
      case rel => exact ⟨!b,rest.drop rest.length,acc ++ [rest.length],hdd,hOf,by rw [Bool.not_not];exact hTf,hbf,by rw [List.length_append,List.length_singleton,show l.length + 1 - (acc.length + 1) = f by omega];exact hLe2,by rw [List.length_append,List.length_singleton,show l.length + 1 - (acc.length + 1) = f by omega];exact hF2,by rw [List.length_append,List.length_singleton];omega,by omega⟩
      case measure =>
       obtain ⟨a9,c9,e9⟩:=(own_sl hOf.out).len;rw [e9,List.length_append,List.length_singleton];simp;omega
    ·have hdd:Hid (Bools w (.slice (some ⟨bk,off + rest.length,none⟩) (rest.length - rest.length) (c1 - rest.length)) (rest.drop rest.length)):=hid (by
      have:=hsd.out rest.length hcl;rw [if_neg hcm] at this;unfold Bools;rw [hdl,List.map_drop]
      exact this)
     go_wp2_with fail
     go_region_held3 (fun W:World => Below 0 W W) (exact Below.refl _ _) ((refine step_append_src (by rfl) (.tmp 21) (.tmp 23) 82 (by rfl) (w.heap.size + 1) 3 i0 (.int .i64 0) 1 8 Tryz.underlying82 hi hz0 hz1 hz2 rfl (by decide) _ acc.length (acc.map fun n:Nat => i64C n) (by rfl) ?_ _ 1 [.int .i64 (rest.length:Int)] (by rfl) rfl ?_ (one_i64 _) (by unfold maxLen;omega) (by omega) ?_ ?_;exact World.ownsRow.alloc hO2.out _;exact src_new (alloc_new w2 _) _;(simp;omega);intro v5 w5 hown hgrow))
     all_goals
      have hOf:=hid (ownL_snoc (n:=rest.length) hown);have hg2:(w2.alloc (.cells #[.int .i64 (rest.length:Int)] 3)).drew.grownBy w5 (Value.slice a2 acc.length c2).ownBlock:=hgrow;have hbf:=hid ((bel_drewN (hb2.out.alloc hb2.out.size (.cells #[.int .i64 (rest.length:Int)] 3)) 1).grown hg2 (by simp;omega) (fun k e => by have:=(hlo.out k e).1;omega));have hTf:Hid (TB w.heap.size b w5):=hid ((hg2.block _ (by simp;omega) (fun e => by have:=(hlo.out _ e.symm).1;omega)).trans (alloc_at _ hT2.out));clear hown hgrow hg2;go_wp2_with fail
      rw [Nat.sub_self] at hdd
      go_roundw
      case rel => exact ⟨!b,rest.drop rest.length,acc ++ [rest.length],hdd,hOf,by rw [Bool.not_not];exact hTf,hbf,by rw [List.length_append,List.length_singleton,show l.length + 1 - (acc.length + 1) = f by omega];exact hLe2,by rw [List.length_append,List.length_singleton,show l.length + 1 - (acc.length + 1) = f by omega];exact hF2,by rw [List.length_append,List.length_singleton];omega,by omega⟩
      case measure =>
       obtain ⟨a9,c9,e9⟩:=(own_sl hOf.out).len;rw [e9,List.length_append,List.length_singleton];simp;omega
end Fg
end
section
open Go.RowKit Go.Shelf
namespace Fg
open Mem Pk Ck Rn
theorem encode_any (v:Value) (l:List Bool) (w:World) (hv:Bools w v l) (hl:l.length ≤ 1000) :
  Calls Tryz.prog 137 #[v] w fun e w' => e = .returned (.string (str (encFlags l))) ∧ Below w.heap.size w w':=by
 obtain ⟨-,-,hsum,hrl,-⟩:=lens_spec l;have hsm:=hid (fun k => sum_take_le (lens l) k);have hst:=hid (fun k n (h:(lens l)[k]? = some n) => sum_take (k:=k) h);have HO:=hid (fun W (h:Bools W v l) => lengths_any v l W h hl);have HV:=hid hv;have hE:Hid (encFlags l = encL (lens l)):=hid rfl;rw [hsum] at hsm;clear hv hsum;generalize lens l = r at *;go_enter Tryz.func137,Tryz.ntmps137;go_wp2_with fail;have hb0:=BAt.start w;refine (HO.out _ (HV.out.below hb0.bel)).mono ?_
 rintro e w1 ⟨⟨y,rfl,hO⟩,hb⟩;have hB1:=hid (hb0.below hb);have hR:=hid (own_mono hO (C:=w.heap.size + 1) (by simp));obtain ⟨a,cap,rfl⟩:=(own_sl hO).len;clear hb0 hb hO;go_wp2_with fail
 go_loopw [9] (fun i wr => ∃ k:Nat,i = .int .i64 k ∧ k ≤ r.length ∧ Hid (BAt w (encL (r.take k)) wr) ∧ Hid (OwnL wr (w.heap.size + 1) (.slice a r.length cap) r)) (fun i _ => r.length - (intOf i).toNat)
 case atStart => exact ⟨0,rfl,by omega,hB1,hR⟩
 case round =>
  clear hB1 hR;obtain ⟨k,rfl,hk,hB,hR⟩:=hrel
  by_cases hlt:k < r.length
  ·have hlt':(k:Int) < (r.length:Nat):=by omega
   obtain ⟨b,off,rfl⟩:=(own_sl hR.out).addr (by omega);obtain ⟨x,hx⟩:=some_at hlt;have c0:wr.cell? ⟨b,off + k,none⟩ = some (.int .i64 (x:Int)):=sl_one (own_sl hR.out) rfl hx;have hnx:=hid (encL_take hx);have hs1:=hst.out k _ hx;have hs2:=hsm.out (k + 1)
   have hlen:(encL (r.take k)).length ≤ 20000:=by have:=encL_len (r.take k);rw [List.length_take] at this;omega
   have hxb:x ≤ 1000:=by omega
   clear hx hlt hs1 hs2;generalize encL (r.take k) = acc at *;have HP:=hid (fun W => put_any x W (by unfold W64;omega));have hpl:=putL_length x
   have hcw:IntKind.u64.wrap (x:Int) = (x:Int):=by rw [IntKind.wrap_u64];omega
   have hw1:=hB.out.size;go_wp2_with fail;refine (HP.out _).mono ?_
   rintro e w3 ⟨rfl,hb3⟩;have hB3:=hid (hB.out.below hb3);have hK3:=hid (KeepsT.below (b:=w.heap.size) hb3);clear hb3 hB;go_wp2_with fail;refine (w_strX hB3.out (str (putL x)) (by omega) (by rw [str_size];omega)).mono ?_
   rintro e w4 ⟨rfl,hB4,hK4⟩;rw [str_data,← hnx.out] at hB4;replace hB4:=hid hB4;replace hR:=hid ((hK3.out.trans hK4).own hR.out (by omega) (by decide));clear hK4 hB3;go_wp2_with fail
   go_roundw
   case rel => exact ⟨k + 1,by go_num,by omega,hB4,hR⟩
   case measure => simp [intOf];omega
  ·obtain rfl:k = r.length:=by omega
   have hge:¬ ((r.length:Int) < (r.length:Nat)):=by omega
   rw [List.take_length,← hE.out] at hB;go_wp2_with fail;refine (b_string hB.out).mono ?_
   rintro e w3 ⟨rfl,hb3⟩;go_wp2_with fail;go_ret;exact ⟨rfl,hb3⟩
def cntT (l:List Bool):Nat:=l.countP (· = true)
theorem cntT_snoc (l:List Bool) (x:Bool):cntT (l ++ [x]) = cntT l + if x = true then 1 else 0:=by unfold cntT;rw [List.countP_append];cases x <;> simp
theorem cntT_le (l:List Bool):cntT l ≤ l.length:=List.countP_le_length
theorem count_any (v:Value) (l:List Bool) (w:World) (hv:Bools w v l) (hl:l.length ≤ 1000) :
  Calls Tryz.prog 213 #[v] w fun e w' => e = .returned (.int .i64 (cntT l:Nat)) ∧ w = w':=by
 obtain ⟨a,cap,rfl⟩:=hv.len;have HV:=hid hv;clear hv;go_enter Tryz.func213,Tryz.ntmps213;go_wp2_with fail
 go_loop [3,8] (fun n i => ∃ k:Nat,i = .int .i64 k ∧ k ≤ l.length ∧ n = .int .i64 (cntT (l.take k):Nat)) (fun _ i => l.length - (intOf i).toNat)
 case atStart => exact ⟨0,rfl,by omega,rfl⟩
 case round =>
  obtain ⟨k,rfl,hk,rfl⟩:=hrel
  by_cases hlt:k < l.length
  ·have hlt':(k:Int) < (l.length:Nat):=by omega
   obtain ⟨b,off,rfl⟩:=HV.out.addr (by omega);obtain ⟨y,hy⟩:=some_at hlt;have hc:w.cell? ⟨b,off + k,none⟩ = some (.bool y):=sl_one HV.out rfl hy;have hn:Hid (cntT (l.take (k + 1)) = cntT (l.take k) + if y = true then 1 else 0):=hid (by rw [take_snoc hy,cntT_snoc]);have hle:=cntT_le (l.take k);rw [List.length_take] at hle;clear hy;generalize cntT (l.take k) = c at *
   cases y
   ·go_wp2_with fail
    go_round
    case rel => exact ⟨k + 1,by go_num,by omega,by rw [hn.out];rfl⟩
    case measure => simp [intOf];omega
   ·go_wp2_with fail
    go_round
    case rel => exact ⟨k + 1,by go_num,by omega,by rw [hn.out];rfl⟩
    case measure => simp [intOf];omega
  ·obtain rfl:k = l.length:=by omega
   have hge:¬ ((l.length:Int) < (l.length:Nat)):=by omega
   rw [List.take_length];go_wp2_with fail;go_ret;exact ⟨rfl,rfl⟩
def OwnBl (w:World) (B:Nat) (v:Value) (l:List Bool):Prop:=w.ownsRow B 4 1 v l.length (l.map boolC)
def Lns (W:World) (v:Value) (r:List Nat):Prop:=Sl W v r.length (r.map fun n:Nat => i64C n)
structure Good (r:List Nat):Prop where
 pos:∀ i n,0 < i → r[i]? = some n → 1 ≤ n
 one:r ≠ [0]
theorem spread_any (v:Value) (r:List Nat) (w:World) (hv:Lns w v r) (hg:Good r) (hl:r.length ≤ 2000) (hs:r.sum ≤ 1000) :
  Calls Tryz.prog 229 #[v,.int .i64 (r.sum:Nat)] w fun e w' => (∃ y,e = .returned (.tuple #[y,.bool true]) ∧ OwnBl w' w.heap.size y (expand false r)) ∧ Below w.heap.size w w':=by
 obtain ⟨i0,hi,hz0,hz1,hz2⟩:=info_parts infoBool;obtain ⟨a,cap,rfl⟩:=hv.len;have HV:=hid hv;have HG:=hid hg;have hS:=hid (fun k n (h:r[k]? = some n) => sum_take (k:=k) h);have hS2:=hid (fun k => sum_take_le r k);obtain ⟨N,hN⟩:∃ N,r.sum = N:=⟨_,rfl⟩;rw [hN] at hs hS2 ⊢
 have hn0:(0:Int) ≤ (N:Int):=by omega
 clear hN hv hg
 have key:((r.length:Int) == 1) = false ∨ (∃ b off x,a = some ⟨b,off,none⟩ ∧ ((r.length:Int) == 1) = true ∧ w.cell? ⟨b,off,none⟩ = some (.int .i64 x) ∧ (x == 0) = false ∧ 0 < r.length):=by
  by_cases h:r.length = 1
  ·refine .inr ?_
   obtain ⟨x,hx⟩:=some_at (l:=r) (k:=0) (by omega);obtain ⟨b,off,rfl⟩:=HV.out.addr (by omega);have hc:=sl_one HV.out rfl hx;refine ⟨b,off,(x:Int),rfl,by rw [beq_iff_eq];omega,by simpa [i64C] using hc,?_,by omega⟩
   rw [beq_eq_false_iff_ne];intro e
   have e':x = 0:=by omega
   subst e';refine HG.out.one ?_
   match r,h with
   | [y],_ => simp at hx;rw [hx]
  ·exact .inl (by rw [beq_eq_false_iff_ne];omega)
 rcases key with hd | ⟨bx,ox,x0,rfl,hd,hcx,hx0,hp0⟩
 all_goals
  go_enter Tryz.func229,Tryz.ntmps229;go_wp2_with fail;refine (turns_any _).mono ?_
  rintro e w1 ⟨rfl,hT,hb,hsz⟩;have hT':Hid (TB w.heap.size (!(decide (0 % 2 = 1))) w1):=hid hT;replace hb:=hid hb;clear hsz hT hd
  (try clear hcx hx0)
  go_wp2_with fail
  go_loopw [6,26] (fun o i wr => ∃ k:Nat,i = .int .i64 k ∧ k ≤ r.length ∧ Hid (TB w.heap.size (!(decide (k % 2 = 1))) wr) ∧ Hid (OwnBl wr (w.heap.size + 1) o (expand false (r.take k))) ∧ Hid (Below w.heap.size w wr)) (fun _ i _ => r.length - (intOf i).toNat)
  case atStart => exact ⟨0,rfl,by omega,hT',hid (World.ownsRow_nil _ _ _ _),hb⟩
  case round =>
   clear hT' hb;obtain ⟨k,rfl,hk,hT,hO,hb⟩:=hrel;have hwl:=lt_of_block hT.out
   by_cases hlt:k < r.length
   ·have hlt':(k:Int) < (r.length:Nat):=by omega
    obtain ⟨b,off,hao⟩:=HV.out.addr (by omega)
    first | subst hao | (have h9:b = bx ∧ off = ox:=(by simp at hao;exact ⟨hao.1.symm,hao.2.symm⟩);obtain ⟨h9a,h9b⟩:=h9;subst h9a;subst h9b)
    obtain ⟨n,hn⟩:=some_at hlt;have hc:wr.cell? ⟨b,off + k,none⟩ = some (.int .i64 (n:Int)):=(hb.out.cell (p:=⟨b,off + k,none⟩) (sl_lt HV.out (by omega))).trans (sl_one HV.out rfl hn);have hs1:=hS.out k _ hn;have hs2:=hS2.out (k + 1);have hlen:(expand false (r.take k)).length = (r.take k).sum:=expand_len _ _;have hnx:Hid (expand false (r.take (k + 1)) = expand false (r.take k) ++ List.replicate n (decide (k % 2 = 1))):=hid (by rw [take_snoc hn,expand_snoc,List.length_take,Nat.min_eq_left (by omega)];cases decide (k % 2 = 1) <;> rfl)
    have hp1:=HG.out.pos k n
    have hln:(expand false (r.take k)).length + n ≤ N:=by omega
    have hmin:Hid (0 < k → 1 ≤ n):=hid (fun h => hp1 h hn)
    have hpar:Hid ((!(decide ((k + 1) % 2 = 1))) = decide (k % 2 = 1)):=hid (by
     rcases Nat.mod_two_eq_zero_or_one k with h | h
     ·rw [decide_eq_false (by omega:¬ k % 2 = 1),decide_eq_true (by omega:(k + 1) % 2 = 1)];rfl
     ·rw [decide_eq_true h,decide_eq_false (by omega:¬ (k + 1) % 2 = 1)];rfl)
    clear hs1 hs2 hlen hn hp1;generalize expand false (r.take k) = acc at *;obtain ⟨a2,c2,rfl⟩:=(own_sl hO.out).len;obtain ⟨tn,htn⟩:∃ tn,decide (k % 2 = 1) = tn:=⟨_,rfl⟩;rw [htn] at hT hnx hpar;clear htn;have hd2:decide ((N:Int) - (acc.length:Nat) < (n:Int)) = false:=decide_eq_false (by omega);have hRep:=hid (fun (W:World) (g:Nat) (h:W.cell? ⟨g,0,none⟩ = some (.bool tn)) => repeatB_any g 0 1 (.bool tn) rfl n W h (by omega));have hlo:=hid hO.out.lt
    have hmn:decide ((n:Int) < min (k:Int) 1) = false:=decide_eq_false (by
     by_cases h0:k = 0
     ·omega
     ·have:=hmin.out (by omega);omega)
    go_wp2_with fail;refine (turn_any w.heap.size (!tn) wr hT.out).mono ?_
    rintro e w2 ⟨rfl,hT2,k2,hsz2⟩;rw [Bool.not_not] at hT2 ⊢;have hO2:=own_kept hO.out k2 (fun i hi h => by omega);have hb2:=hb.out.trans (k2.to_below (B:=w.heap.size) (by omega) (fun i hi h => by omega))
    have hws:wr.heap.size ≤ w2.heap.size:=by omega
    replace hO2:=hid hO2;replace hb2:=hid hb2;replace hT2:=hid hT2;clear k2 hO hb hT hsz2;go_wp2_with fail;obtain ⟨W3,hW3⟩:∃ W3,w2.alloc (.cells #[.bool tn] 4) = W3:=⟨_,rfl⟩
    have hc3:W3.cell? ⟨w2.heap.size,0,none⟩ = some (.bool tn):=by rw [← hW3];exact cell_at (alloc_new w2 _) 0
    have hO3:OwnBl W3 (w.heap.size + 1) (.slice a2 acc.length c2) acc:=by rw [← hW3];exact World.ownsRow.alloc hO2.out _
    have hb3:Below w.heap.size w W3:=by rw [← hW3];exact hb2.out.alloc hb2.out.size _
    have hT3:TB w.heap.size tn W3:=by rw [← hW3];exact alloc_at _ hT2.out
    rw [hW3];clear hW3;refine (hRep.out _ _ hc3).mono ?_
    rintro e w4 ⟨⟨y,rfl,hOy,-⟩,hb4⟩;have hO4:=hid (own_below hO3 hb4);have hT4:=hid (hT3.below hb4);have hb5:=hid (hb3.trans (hb4.mono hb3.size));have hsy:=hid (sl_src (own_sl hOy) (fun h => by rw [h];rfl));have hs4:=hb4.size;have hs3:=lt_of_block hT3;clear hO3 hb3 hT3 hOy hb4 hO2 hT2 hb2
    go_wp2_with (at_builtin;refine wpList_append_src (by rfl) _ _ 216 (by rfl) (w.heap.size + 1) 4 i0 (.bool false) 1 1 Tryz.underlying216 hi hz0 hz1 hz2 rfl (by decide) _ acc.length _ (by rfl) hO4.out _ n (List.replicate n (.bool tn)) (by rfl) (by simp) hsy.out (fun v hv => by rw [List.eq_of_mem_replicate hv];rfl) (by unfold maxLen;omega) (by omega) (by omega) ?_;intro v5 w5 hown hgrow)
    have hOf:Hid (OwnBl w5 (w.heap.size + 1) v5 (acc ++ List.replicate n tn)):=hid (by unfold OwnBl;rw [List.length_append,List.length_replicate,List.map_append,List.map_replicate];exact hown);have hbf:=hid (hb5.out.grown hgrow hb5.out.size (fun k e => by have:=(hlo.out k e).1;omega));have hTf:Hid (TB w.heap.size tn w5):=hid ((hgrow.block _ (by omega) (fun e => by have:=(hlo.out _ e.symm).1;omega)).trans hT4.out);clear hown hgrow;go_wp2_with fail
    go_roundw
    case rel => exact ⟨k + 1,by go_num,by omega,by rw [hpar.out];exact hTf,by rw [hnx.out];exact hOf,hbf⟩
    case measure => simp [intOf];omega
   ·obtain rfl:k = r.length:=by omega
    have hge:¬ ((r.length:Int) < (r.length:Nat)):=by omega
    rw [List.take_length] at hO;go_wp2_with fail;go_ret2;exact ⟨⟨_,rfl,own_mono hO.out (by omega)⟩,hb.out⟩
theorem encL_drop_len (r:List Nat) (k:Nat):(encL (r.drop k)).length ≤ 10 * r.length:=by
 have:=encL_len (r.drop k);rw [List.length_drop] at this;omega
theorem decode_any (l:List Bool) (w:World) (hl:l.length ≤ 1000) :
  Calls Tryz.prog 211 #[.string (str (encFlags l)),.int .i64 (l.length:Nat)] w fun e w' => (∃ y,e = .returned (.tuple #[y,.int .i64 0]) ∧ Bools w' y l) ∧ Below w.heap.size w w':=by
 obtain ⟨i0,hi,hz0,hz1,hz2⟩:=info_parts infoInt;obtain ⟨hsp,hpos,hsum,hrl,hone⟩:=lens_spec l;have hE:encFlags l = encL (lens l):=rfl;rw [hE];obtain ⟨n,hn⟩:∃ n,l.length = n:=⟨_,rfl⟩;rw [hn] at hl hrl hsum ⊢;replace hsp:=hid hsp;clear hE hn;generalize lens l = r at *;have hG:Good r:=⟨hpos,hone⟩;have HS:=hid (fun (W:World) v (h:Lns W v r) => spread_any v r W h hG (by omega) (by omega));rw [hsum] at HS;have hsm:=hid (fun k => sum_take_le r k);have hst:=hid (fun k p (h:r[k]? = some p) => sum_take (k:=k) h);rw [hsum] at hsm;replace hsum:=hid hsum
 have hps:=hid hpos
 have hd0:(0:Int) ≤ (n:Int):=by omega
 have hd1:(n:Int) ≤ 4096:=by omega
 have hEl:=hid (fun k => encL_drop_len r k);clear hG hpos hone;go_enter Tryz.func211,Tryz.ntmps211;go_wp2_with fail;refine (new_any _ _).mono ?_
 rintro e w1 ⟨rfl,hw1⟩;have hB0:=hid (show RB w.heap.size (encL (r.drop 0)) w1 by rw [hw1];exact RB.new _ _);have hb0:=hid (show Below w.heap.size w w1 by rw [hw1];exact (Below.refl _ _).alloc (Nat.le_refl _) _);clear hw1;go_wp2_with fail
 go_loopw [7,8] (fun o lf wr => ∃ k:Nat,k ≤ r.length ∧ lf = .int .i64 ((n:Int) - ((r.take k).sum:Nat)) ∧ Hid (RB w.heap.size (encL (r.drop k)) wr) ∧ Hid (OwnL wr (w.heap.size + 1) o (r.take k)) ∧ Hid (Below w.heap.size w wr)) (fun o _ _ => match o with | .slice _ k _ => r.length - k | _ => 0)
 case atStart => exact ⟨0,by omega,by simp,hB0,hid (World.ownsRow_nil _ _ _ _),hb0⟩
 case round =>
  clear hB0 hb0;obtain ⟨k,hk,rfl,hB,hO,hb⟩:=hrel
  have hlk:(encL (r.drop k)).length ≤ 20000:=by have:=hEl.out k;omega
  have hwl:=lt_of_block hB.out
  by_cases hlt:k < r.length
  ·obtain ⟨c,hx⟩:=some_at hlt
   have hpos:=encL_pos (ns:=r.drop k) (by rw [List.length_drop];omega);have hdr:=hid (encL_drop hx);have hcp:=hps.out k c;have hs1:=hst.out k _ hx;have hs2:=hsm.out (k + 1)
   have hcp2:0 < k → 1 ≤ c:=fun h => hcp h hx
   have htk:=hid (take_snoc hx)
   have hle2:(encL (r.drop (k + 1))).length ≤ 20000:=by have:=hEl.out (k + 1);omega
   have HL:=rb_left hB.out;have hgt:decide ((0:Int) < ((encL (r.drop k)).length:Nat)) = true:=decide_eq_true (by omega);replace HL:=hid HL
   have htl:(r.take k).length = k:=by rw [List.length_take];omega
   rw [hdr.out] at hB;have HN1:=hid (rb_num hB.out (show c < W64 by unfold W64;omega) (by omega));clear hx hcp;generalize (r.take k).sum = sk at *;generalize (encL (r.drop k)).length = L at *;obtain ⟨a2,cap2,rfl⟩:=(own_sl hO.out).len;rw [htl];go_wp2_with fail;refine HL.out.mono ?_
   rintro e w2 ⟨rfl,rfl⟩;go_wp2_with fail;refine HN1.out.mono ?_
   rintro e w3 ⟨rfl,hB3,k2⟩;have hO2:=hid (own_kept hO.out k2 (fun i hi h => by omega));have hb2:=hid (hb.out.trans (k2.to_below (B:=w.heap.size) (by omega) (fun i hi h => by omega)));have hwl3:=k2.size;replace hB3:=hid hB3;clear hO hb k2 HN1 HL;go_wp2_with fail;refine (rb_err hB3.out).mono ?_
   rintro e w4 ⟨rfl,rfl⟩;have hO3:Hid (w3.ownsRow (w.heap.size + 1) 3 1 (.slice a2 k cap2) k ((r.take k).map fun n:Nat => i64C n)):=hid (by have:=hO2.out;unfold OwnL at this;rw [htl] at this;exact this)
   have q2:IntKind.u64.wrap ((n:Int) - (sk:Int)) = (n:Int) - (sk:Int):=by rw [IntKind.wrap_u64];omega
   have q3:decide ((n:Int) - (sk:Int) < (c:Int)) = false:=decide_eq_false (by omega);have q4:IntKind.i64.wrap (c:Int) = (c:Int):=IntWalk.i64_in _ (by omega)
   have hnk:sk + c ≤ n:=by omega
   clear hO2
   by_cases hc0:c = 0
   ·subst hc0
    have hk0:k = 0:=by
     rcases Nat.eq_zero_or_pos k with h | h
     ·exact h
     ·have:=hcp2 h;omega
    subst hk0
    go_wp2_with (at_builtin;refine wpList_append_src (by rfl) _ _ 82 (by rfl) (w.heap.size + 1) 3 i0 (.int .i64 0) 1 8 Tryz.underlying82 hi hz0 hz1 hz2 rfl (by decide) _ 0 _ (by rfl) (World.ownsRow.alloc hO3.out _) _ 1 [.int .i64 ((0:Nat):Int)] (by rfl) rfl (src_new (alloc_new w3 _) _) (one_i64 _) (by unfold maxLen;omega) (by omega) (by simp;omega) ?_;intro v5 w5 hown hgrow)
    have hOf:Hid (OwnL w5 (w.heap.size + 1) v5 (r.take (0 + 1))):=hid (by unfold OwnL;rw [htk.out,List.map_append,List.length_append,List.length_take,Nat.min_eq_left (by omega)];exact hown);have hbf:=hid ((hb2.out.alloc hb2.out.size _).grown hgrow (hb2.out.alloc hb2.out.size _).size (fun k e => by have:=(hO3.out.lt k e).1;omega));have hBf:Hid (RB w.heap.size (encL (r.drop (0 + 1))) w5):=hid ((hgrow.block _ (by simp;omega) (fun e => by have:=(hO3.out.lt _ e.symm).1;omega)).trans (alloc_at _ hB3.out));clear hown hgrow;go_wp2_with fail
    go_roundw
    case rel => exact ⟨0 + 1,by omega,by rw [hs1];go_num,hBf,hOf,hbf⟩
    case measure =>
     obtain ⟨a9,c9,e9⟩:=(own_sl hOf.out).len;rw [e9,List.length_take,Nat.min_eq_left (by omega)];simp;omega
   ·have q1:((c:Int) == 0) = false:=by rw [beq_eq_false_iff_ne];omega
    go_wp2_with (at_builtin;refine wpList_append_src (by rfl) _ _ 82 (by rfl) (w.heap.size + 1) 3 i0 (.int .i64 0) 1 8 Tryz.underlying82 hi hz0 hz1 hz2 rfl (by decide) _ k _ (by rfl) (World.ownsRow.alloc hO3.out _) _ 1 [.int .i64 (c:Int)] (by rfl) rfl (src_new (alloc_new w3 _) _) (one_i64 _) (by unfold maxLen;omega) (by omega) (by simp;omega) ?_;intro v5 w5 hown hgrow)
    have hOf:Hid (OwnL w5 (w.heap.size + 1) v5 (r.take (k + 1))):=hid (by unfold OwnL;rw [htk.out,List.map_append,List.length_append,List.length_take,Nat.min_eq_left (by omega)];exact hown);have hbf:=hid ((hb2.out.alloc hb2.out.size _).grown hgrow (hb2.out.alloc hb2.out.size _).size (fun k e => by have:=(hO3.out.lt k e).1;omega));have hBf:Hid (RB w.heap.size (encL (r.drop (k + 1))) w5):=hid ((hgrow.block _ (by simp;omega) (fun e => by have:=(hO3.out.lt _ e.symm).1;omega)).trans (alloc_at _ hB3.out));clear hown hgrow;go_wp2_with fail
    go_roundw
    case rel => exact ⟨k + 1,by omega,by rw [hs1];go_num,hBf,hOf,hbf⟩
    case measure =>
     obtain ⟨a9,c9,e9⟩:=(own_sl hOf.out).len;rw [e9,List.length_take,Nat.min_eq_left (by omega)];simp;omega
  ·obtain rfl:k = r.length:=by omega
   rw [List.drop_length,show encL [] = [] from rfl] at hB;rw [List.take_length] at hO;rw [List.take_length,hsum.out];obtain ⟨a2,cap2,rfl⟩:=(own_sl hO.out).len
   have hq:(n:Int) - (n:Int) = 0:=by omega
   have hln:(r.map fun n:Nat => i64C n).length = r.length:=by simp
   have HS2:=hid (HS.out _ _ (own_sl hO.out));go_wp2_with fail;refine (rb_left hB.out).mono ?_
   rintro e w2 ⟨rfl,rfl⟩;go_wp2_with fail;refine HS2.out.mono ?_
   rintro e w2 ⟨⟨y,rfl,hy⟩,hb2⟩
   have hyy:Bools w2 y l:=by
    have:=own_sl hy;rw [hsp.out] at this;exact this
   go_wp2_with fail;go_ret2;exact ⟨⟨_,rfl,hyy⟩,hb.out.trans (hb2.mono hb.out.size)⟩
end Fg
end
section
open Go.RowKit Go.Shelf
namespace Og
open Mem Pk Ck Rn Fl
theorem alloc_new_at {w:World} {n:Nat} (x:Obj) (h:w.heap.size = n):(w.alloc x).heap[n]? = some x:=by subst h;exact alloc_new w x
def someL (zs:List Nat):List Bool:=zs.map fun z => canon z != 0
def restL (zs:List Nat):List Nat:=zs.filter fun z => canon z != 0
def ranksL (zs:List Nat):List UInt8:=partL (Fg.encFlags (someL zs)) ++ Rl.encR 0 (restL zs)
theorem someL_len (zs:List Nat):(someL zs).length = zs.length:=by unfold someL;simp
theorem restL_len (zs:List Nat):(restL zs).length ≤ zs.length:=List.length_filter_le _ _
theorem cnt_rest (zs:List Nat):Fg.cntT (someL zs) = (restL zs).length:=by
 unfold Fg.cntT someL restL;rw [List.countP_map,← List.countP_eq_length_filter]
 congr 1
 funext z
 cases h:(canon z != 0) <;> simp [h]
theorem rest_snoc (l:List Nat) (z:Nat):restL (l ++ [z]) = if (canon z != 0) = true then restL l ++ [z] else restL l:=by
 unfold restL;rw [List.filter_append]
 cases h:(canon z != 0) <;> simp [h]
theorem rest_cons (l:List Nat) (z:Nat):restL (z :: l) = if (canon z != 0) = true then z :: restL l else restL l:=by
 unfold restL;rw [List.filter_cons]
def boolCells (l:List Bool) (n:Nat):List Value:=l.map boolC ++ List.replicate (n - l.length) (.bool false)
theorem boolCells_set {l:List Bool} {n:Nat} (h:l.length < n) (b:Bool):(boolCells l n).set l.length (.bool b) = boolCells (l ++ [b]) n:=by
 unfold boolCells;rw [List.set_append_right _ _ (by simp),List.length_map,Nat.sub_self,List.map_append,List.length_append,List.length_singleton];obtain ⟨m,hm⟩:∃ m,n - l.length = m + 1:=⟨n - l.length - 1,by omega⟩;rw [hm,show n - (l.length + 1) = m by omega,List.replicate_succ,List.set_cons_zero,List.append_assoc]
 rfl
theorem putRanks_any (v:Value) (zs:List Nat) (w:World) (hv:Fs w v zs) (hz:∀ z ∈ zs,z < 2 * S) (hl:zs.length ≤ 400) :
  Calls Tryz.prog 98 #[v] w fun e w' => e = .returned (.string (str (ranksL zs))) ∧ Below w.heap.size w w':=by
 obtain ⟨i0,hi,hz0,hz1,hz2⟩:=info_parts infoBool;obtain ⟨j0,hj,hy0,hy1,hy2⟩:=info_parts Rl.infoF;obtain ⟨a,cap,rfl⟩:=hv.len;have HV:=hid hv;have HZ:=hid hz
 have hn0:(0:Int) ≤ (zs.length:Nat):=by omega
 have hlen:=someL_len zs;have hrl:=restL_len zs;obtain ⟨W2,hmk,hown,hgrow⟩:=run_make_full (P:=Tryz.prog) w w.heap.size 216 4 i0 (.bool false) 1 Tryz.underlying216 hi hz0 hz1 .i64 .i64 zs.length (by rw [hz2];omega) (by unfold maxLen;omega) (Nat.le_refl _);rw [Nat.mul_one] at hown
 change W2.ownsRow _ _ _ _ _ (madeCells #[.bool false] zs.length).toList at hown
 rw [toList_madeCells_one] at hown;have hb0:=hid (show Below w.heap.size w W2 from (Below.refl _ _).grown hgrow (Nat.le_refl _) (by simp))
 have hs2:w.heap.size + 1 ≤ W2.heap.size:=by have h9:w.heap.size < W2.heap.size:=(hown.lt _ rfl).2;omega
 replace hown:=hid hown;have HF:=hid (fun W v h => Fg.encode_any v (someL zs) W h (by omega));have HP:=hid (fun W => part_any (Fg.encFlags (someL zs)) W (by have:=Fg.encFlags_len (someL zs);omega));have HR:=hid (fun W v h => Rl.encode_any v (restL zs) W h (by omega));have hE:Hid (str (partL (Fg.encFlags (someL zs))) ++ str (Rl.encR 0 (restL zs)) = str (ranksL zs)):=hid (str_append _ _);have hpl:=partL_len (Fg.encFlags (someL zs));have hfl:=Fg.encFlags_len (someL zs)
 have hb1:(str (partL (Fg.encFlags (someL zs)))).size ≤ 100000:=by rw [str_size];omega
 have hb2:(str (Rl.encR 0 (restL zs))).size ≤ 100000:=by
  rw [str_size]
  have:∀ (l:List Nat) (p:Nat),(Rl.encR p l).length ≤ 10 * l.length:=by
   intro l
   induction l with
   | nil => intro p;simp [Rl.encR]
   | cons x l ih =>
    intro p;rw [Rl.encR,List.length_append,List.length_cons];have:=putL_length (Rl.swapN (canon x ^^^ p));have:=ih (canon x);omega
  have:=this (restL zs) 0;omega
 clear hv hz hgrow hpl hfl;go_enter Tryz.func98,Tryz.ntmps98;go_wp2_with fail;clear hmk
 go_loopw [4,12] (fun o i wr => ∃ k:Nat,i = .int .i64 k ∧ k ≤ zs.length ∧ Hid (wr.ownsRow w.heap.size 4 1 (.slice (some ⟨w.heap.size,0,none⟩) zs.length zs.length) zs.length (boolCells (someL (zs.take k)) zs.length)) ∧ Hid (Rl.OwnF wr (w.heap.size + 1) o (restL (zs.take k))) ∧ Hid (Below w.heap.size w wr) ∧ w.heap.size + 1 ≤ wr.heap.size) (fun _ i _ => zs.length - (intOf i).toNat)
 case atStart => exact ⟨0,rfl,by omega,hown,hid (World.ownsRow_nil _ _ _ _),hb0,hs2⟩
 case round =>
  clear hown hb0 hs2;obtain ⟨k,rfl,hk,hA,hO,hb,hsz⟩:=hrel
  by_cases hlt:k < zs.length
  ·have hlt':(k:Int) < (zs.length:Nat):=by omega
   obtain ⟨b,off,rfl⟩:=HV.out.addr (by omega);obtain ⟨z,hx⟩:=some_at hlt;have hc:wr.cell? ⟨b,off + k,none⟩ = some (.float .f64 z):=(hb.out.cell (p:=⟨b,off + k,none⟩) (sl_lt HV.out (by omega))).trans (sl_one HV.out rfl hx);have hzb:=HZ.out z (List.mem_of_getElem? hx);have HB:=hid (fun W => bits_any z W hzb)
   have hsl:(someL (zs.take k)).length = k:=by rw [someL_len,List.length_take];omega
   have hsn:Hid (someL (zs.take (k + 1)) = someL (zs.take k) ++ [canon z != 0]):=hid (by rw [take_snoc hx];unfold someL;simp);have hrn:Hid (restL (zs.take (k + 1)) = if (canon z != 0) = true then restL (zs.take k) ++ [z] else restL (zs.take k)):=hid (by rw [take_snoc hx,rest_snoc]);have hrll:=restL_len (zs.take k);rw [List.length_take] at hrll;have hlo:=hid hO.out.lt;obtain ⟨a2,c2,rfl⟩:=(own_sl hO.out).len;clear hx
   have hq:((canon z:Int) != 0) = (canon z != 0):=by rw [Bool.eq_iff_iff];simp
   generalize canon z = cz at *;generalize restL (zs.take k) = rs at *;go_wp2_with fail;refine (HB.out _).mono ?_
   rintro e w3 ⟨rfl,hb3⟩;have hA3:=hid (own_below hA.out hb3);have hO3:=hid (own_below hO.out hb3);have hb4:=hid (hb.out.trans (hb3.mono hb.out.size));have hs3:=hb3.size;have hf0:w3.frozen? ⟨w.heap.size,k,none⟩ = false:=hA3.out.frozenAt k
   obtain ⟨old,hold⟩:∃ u,w3.cell? ⟨w.heap.size,k,none⟩ = some u:=by
    rw [hA3.out.cellAt k (by omega)];exact some_at (by rw [hA3.out.1];omega)
   obtain ⟨st1,st2⟩:=hA3.out.stored k (.bool (cz != 0))
   have hset:(boolCells (someL (zs.take k)) zs.length).set k (.bool (cz != 0)) = boolCells (someL (zs.take (k + 1))) zs.length:=by
    have h9:=boolCells_set (l:=someL (zs.take k)) (n:=zs.length) (by omega) (cz != 0);rw [hsl,← hsn.out] at h9;exact h9
   rw [hset] at st1;clear hset;have hAf:=hid st1;have hbf:=hid (hb4.out.grown st2 hb4.out.size (fun j e => by cases e;exact Nat.le_refl _));have hOf:=hid (Dc.own_other hO3.out st2 (by omega))
   have hszf:w.heap.size + 1 ≤ (w3.setCell ⟨w.heap.size,k,none⟩ (.bool (cz != 0))).heap.size:=by simp [World.setCell];omega
   clear hb3 hA hO hb hc st1 st2 hA3 hO3 hb4
   by_cases hcz:cz = 0
   ·have hq2:(cz != 0) = false:=by rw [hcz];rfl
    rw [hq2] at hq hrn hAf hbf hOf hszf;clear hcz hq2;go_wp2_with fail
    go_roundw
    case rel => exact ⟨k + 1,by go_num,by omega,hAf,by rw [hrn.out,if_neg (by decide)];exact hOf,hbf,hszf⟩
    case measure => simp [intOf];omega
   ·have hq2:(cz != 0) = true:=by rw [bne_iff_ne];exact hcz
    rw [hq2] at hq hrn hAf hbf hOf hszf;clear hcz hq2
    go_wp2_with (at_builtin;refine wpList_append_src (by rfl) _ _ 164 (by rfl) (w.heap.size + 1) 47 j0 (.float .f64 0) 1 8 Tryz.underlying164 hj hy0 hy1 hy2 rfl (by decide) _ rs.length (Rl.cellsF rs) (by rfl) (World.ownsRow.alloc hOf.out _) _ 1 [.float .f64 z] (by rfl) rfl (src_new (alloc_new_at (n:=w3.heap.size) _ (by simp [World.setCell])) _) (Rl.one_float _) (by unfold maxLen;omega) (by omega) (by simp [World.setCell];omega) ?_;intro v5 w5 hown hgrow)
    have hO5:=hid (Rl.ownF_snoc hown);have hA5:=hid ((hAf.out.alloc (.cells #[.float .f64 z] 47)).kept hgrow (.inr (fun e => by have h9:w.heap.size + 1 ≤ w.heap.size:=(hlo.out _ e.symm).1;omega)));have hb5:=hid ((hbf.out.alloc hbf.out.size (.cells #[.float .f64 z] 47)).grown hgrow (by simp [World.setCell];omega) (fun j e => by have:=(hlo.out _ e).1;omega))
    have hs5:w.heap.size + 1 ≤ w5.heap.size:=by have:=hgrow.size;simp [World.setCell] at this;omega
    clear hown hgrow;go_wp2_with fail
    go_roundw
    case rel => exact ⟨k + 1,by go_num,by omega,hA5,by rw [hrn.out,if_pos trivial];exact hO5,hb5,hs5⟩
    case measure => simp [intOf];omega
  ·obtain rfl:k = zs.length:=by omega
   have hge:¬ ((zs.length:Int) < (zs.length:Nat)):=by omega
   rw [List.take_length] at hA hO
   have hA2:Hid (Bools wr (.slice (some ⟨w.heap.size,0,none⟩) zs.length zs.length) (someL zs)):=hid (by
    have:=own_sl hA.out;unfold boolCells at this;rw [hlen,Nat.sub_self,List.replicate_zero,List.append_nil] at this;unfold Bools;rw [hlen]
    exact this)
   have hO2:=hid (hO.out.flts (fun n hn => HZ.out n (List.mem_filter.1 hn).1));obtain ⟨a2,c2,rfl⟩:=(own_sl hO.out).len;go_wp2_with fail;refine (HF.out _ _ hA2.out).mono ?_
   rintro e w3 ⟨rfl,hb3⟩;replace hO2:=hid (Rl.flts_below hO2.out hb3);replace hb:=hid (hb.out.trans (hb3.mono hb.out.size));clear hb3;go_wp2_with fail;refine (HP.out _).mono ?_
   rintro e w4 ⟨rfl,hb4⟩;replace hO2:=hid (Rl.flts_below hO2.out hb4);replace hb:=hid (hb.out.trans (hb4.mono hb.out.size));clear hb4;go_wp2_with fail;refine (HR.out _ _ hO2.out).mono ?_
   rintro e w5 ⟨rfl,hb5⟩;replace hb:=hid (hb.out.trans (hb5.mono hb.out.size));clear hb5;go_wp2_with fail;go_ret;exact ⟨by rw [← hE.out];rfl,hb.out⟩
theorem decR_ok (l:List Nat) (hz:∀ z ∈ l,z < 2 * S) (hl:l.length ≤ 400) (w:World) :
  Calls Tryz.prog 212 #[.string (str (Rl.encR 0 l)),.int .i64 (l.length:Nat)] w fun e w' => (∃ r L,e = .returned (.tuple #[r,.int .i64 0]) ∧ Rl.Flts w' r L ∧ L.map canon = l.map canon) ∧ Below w.heap.size w w':=by
 obtain ⟨h1,h2⟩:=Rl.dec_encR hz
 have hlen:∀ (l:List Nat) (p:Nat),(Rl.encR p l).length ≤ 10 * l.length:=by
  intro l
  induction l with
  | nil => intro p;simp [Rl.encR]
  | cons x l ih =>
   intro p;rw [Rl.encR,List.length_append,List.length_cons];have:=putL_length (Rl.swapN (canon x ^^^ p));have:=ih (canon x);omega
 have:=Rl.decode_any (str (Rl.encR 0 l)) (l.length:Nat) w (by rw [str_size];have:=hlen l 0;omega);unfold Rl.DecR at this;rw [h1,h2] at this;exact this
theorem canon_zero:canon 0 = 0:=by decide +kernel
theorem flts_tail {W:World} {b o n c m:Nat} {M:List Nat} (h:Rl.Flts W (.slice (some ⟨b,o,none⟩) n c) (m :: M)):Rl.Flts W (.slice (if c = 1 then some ⟨b,o,none⟩ else some ⟨b,o + 1,none⟩) (n - 1) (c - 1)) M:=by
 obtain ⟨⟨a,cap,e,h1,h2⟩,h3⟩:=h
 cases e
 simp only [List.length_cons] at h1 h2;refine ⟨?_,fun x hx => h3 x (by simp [hx])⟩
 by_cases hc:c = 1
 ·rw [if_pos hc]
  have:M = []:=List.eq_nil_of_length_eq_zero (by omega);subst this;exact ⟨some ⟨b,o,none⟩,c - 1,by simp,by simp,fun h => by simp at h⟩
 ·rw [if_neg hc]
  refine ⟨_,_,rfl,by omega,fun h0 => ?_⟩
  obtain ⟨b',o',e,hb,hcell⟩:=h2 (by omega)
  cases e
  refine ⟨b,o + 1,rfl,hb,fun j hj => ?_⟩
  have:=hcell (j + 1) (by omega);rw [show o + 1 + j = o + (j + 1) by omega]
  simpa using this
def VB (b:Nat) (v:Value) (W:World):Prop:=W.heap[b]? = some (.cells #[v] 164 (0,0))
def T1 (zs:List Nat) (bl B:Nat) (w':World):Prop:=∃ y L,VB bl y w' ∧ Rl.OwnF w' B y L ∧ (∀ z ∈ L,z < 2 * S) ∧ L.map canon = zs.map canon
theorem vb_keep {b bl j:Nat} {a:Option Addr} {n c:Nat} {u:Value} {W W':World} (h:VB bl (.slice a n c) W) (hk:Kept (· = bl) W W') (hu:W.cell? ⟨b,j,none⟩ = some u) (hns:∀ a n c,u ≠ .slice a n c):W'.cell? ⟨b,j,none⟩ = some u:=by
 have hne:b ≠ bl:=by
  rintro rfl;rw [cell_at h] at hu
  cases j with
  | zero => simp at hu;exact hns _ _ _ hu.symm
  | succ j => simp at hu
 have hlt:=World.block_lt_of_cell? _ _ hu;exact (World.cell?_of_block (w:=W) (hk.block b hlt hne)).trans hu
theorem take1_ok (zs:List Nat) (hz:∀ z ∈ zs,z < 2 * S) (hl:zs.length ≤ 400) (bs bn bl:Nat) (w:World)
  (h0:w.cell? ⟨bs,0,none⟩ = some (.string (str (ranksL zs)))) (h1:w.cell? ⟨bn,0,none⟩ = some (.int .i64 (zs.length:Nat))) (h2:VB bl (.slice none 0 0) w) :
  Calls Tryz.prog 209 #[.pointer (some ⟨bs,0,none⟩),.pointer (some ⟨bn,0,none⟩),.pointer (some ⟨bl,0,none⟩)] w fun e w' => e = .returned (.tuple #[]) ∧ T1 zs bl w.heap.size w' ∧ Kept (· = bl) w w':=by
 obtain ⟨j0,hj,hy0,hy1,hy2⟩:=info_parts Rl.infoF;have hlen:=someL_len zs;have hrl:=restL_len zs;have hcnt:=cnt_rest zs;have HZ:=hid hz;have hfl:=Fg.encFlags_len (someL zs)
 have henc:∀ (l:List Nat) (p:Nat),(Rl.encR p l).length ≤ 10 * l.length:=by
  intro l
  induction l with
  | nil => intro p;simp [Rl.encR]
  | cons x l ih =>
   intro p;rw [Rl.encR,List.length_append,List.length_cons];have:=putL_length (Rl.swapN (canon x ^^^ p));have:=ih (canon x);omega
 have HC:=hid (fun W => cut_ok (Fg.encFlags (someL zs)) (Rl.encR 0 (restL zs)) W (by have:=henc (restL zs) 0;omega));have HF:=hid (fun W => Fg.decode_any (someL zs) W (by omega));rw [hlen] at HF;have HN:=hid (fun W v h => Fg.count_any v (someL zs) W h (by omega));rw [hcnt] at HN;have HR:=hid (fun W => decR_ok (restL zs) (fun z h => HZ.out z (List.mem_filter.1 h).1) (by omega) W);have h2':=hid h2;have hbl:=lt_of_block h2;have hS:Hid (ranksL zs = partL (Fg.encFlags (someL zs)) ++ Rl.encR 0 (restL zs)):=hid rfl;rw [hS.out] at h0;clear hz h2 hfl henc hcnt
 generalize str (partL (Fg.encFlags (someL zs)) ++ Rl.encR 0 (restL zs)) = Sx at *;go_enter Tryz.func209,Tryz.ntmps209;go_wp2_with fail;refine (HC.out _).mono ?_
 rintro e w1 ⟨rfl,hb1⟩;have h11:w1.cell? ⟨bn,0,none⟩ = some (.int .i64 (zs.length:Nat)):=(hb1.cell (World.block_lt_of_cell? _ _ h1)).trans h1;replace hb1:=hid hb1;go_wp2_with fail;refine (HF.out _).mono ?_
 rintro e w2 ⟨⟨ys,rfl,hY⟩,hb2⟩;replace hb1:=hid (hb1.out.trans (hb2.mono hb1.out.size));replace hY:=hid hY;clear hb2 h11;go_wp2_with fail;refine (got_bools _ _).mono ?_
 rintro e w3 ⟨rfl,rfl⟩;have HN2:=hid (HN.out _ _ hY.out);go_wp2_with fail;refine HN2.out.mono ?_
 rintro e w3 ⟨rfl,rfl⟩;go_wp2_with fail;refine (HR.out _).mono ?_
 rintro e w3 ⟨⟨yr,L0,rfl,hL0,hLc⟩,hb3⟩;replace hb1:=hid (hb1.out.trans (hb3.mono hb1.out.size));replace hY:=hid (hY.out.below hb3);replace hL0:=hid hL0;replace hLc:=hid hLc;clear hb3 HN2;go_wp2_with fail;refine (got_flts _ _).mono ?_
 rintro e w4 ⟨rfl,rfl⟩;have hV:=hid (show VB bl (.slice none 0 0) w3 from (hb1.out.block _ hbl).trans h2'.out);obtain ⟨a,cap,rfl⟩:=hY.out.len;have hsz3:=hb1.out.size;go_wp2_with fail
 go_loopw [6,30] (fun r i wr => ∃ (k:Nat) (M acc:List Nat) (y:Value),i = .int .i64 k ∧ k ≤ zs.length ∧ Hid (Rl.Flts w3 r M) ∧ Hid (M.map canon = (restL (zs.drop k)).map canon) ∧ Hid (VB bl y wr) ∧ Hid (Rl.OwnF wr w3.heap.size y acc) ∧ Hid (∀ z ∈ acc,z < 2 * S) ∧ Hid (acc.map canon = (zs.take k).map canon) ∧ Hid (Kept (· = bl) w3 wr)) (fun _ i _ => zs.length - (intOf i).toNat)
 case atStart => exact ⟨0,L0,[],_,rfl,by omega,hL0,hLc,hV,hid (World.ownsRow_nil _ _ _ _),hid (fun z h => by simp at h),hid rfl,hid (Kept.refl _ _)⟩
 case round =>
  clear hL0 hLc hV;obtain ⟨k,M,acc,y,rfl,hk,hM,hMc,hV,hO,hab,hac,hK⟩:=hrel
  by_cases hlt:k < zs.length
  ·have hlt':(k:Int) < (zs.length:Nat):=by omega
   obtain ⟨z,hx⟩:=some_at hlt;obtain ⟨b,off,rfl⟩:=hY.out.addr (by rw [hlen];omega);have hwl:=Nat.lt_of_lt_of_le (lt_of_block hV.out) (Nat.le_refl _)
   obtain ⟨ay,ny,cy,hye⟩:∃ ay ny cy,y = .slice ay ny cy:=by obtain ⟨ay,cy,e⟩:=(own_sl hO.out).len;exact ⟨_,_,_,e⟩
   have hV3:VB bl (.slice none 0 0) w3:=(hb1.out.block _ hbl).trans h2'.out;have hc:wr.cell? ⟨b,off + k,none⟩ = some (.bool (canon z != 0)):=vb_keep hV3 hK.out (sl_one hY.out rfl (j:=k) (x:=(canon z != 0)) (by unfold someL;rw [List.getElem?_map,hx];rfl)) (fun _ _ _ e => by cases e);have hzb:=HZ.out z (List.mem_of_getElem? hx);have hac2:Hid (∀ f:Nat,canon f = canon z → (acc ++ [f]).map canon = (zs.take (k + 1)).map canon):=hid (fun f hf => by rw [take_snoc hx,List.map_append,List.map_append,hac.out,List.map_cons,List.map_nil,hf];rfl)
   have hlo:=hid hO.out.lt;have hszr:w3.heap.size ≤ wr.heap.size:=hK.out.size
   have hacb:acc.length ≤ 400:=by have:=congrArg List.length hac.out;rw [List.length_map,List.length_map,List.length_take] at this;omega
   obtain ⟨a5,c5,hye2⟩:=(own_sl hO.out).len;subst hye2;clear hye
   have hltS:(k:Int) < ((someL zs).length:Nat):=by omega
   have hdr:=hid (congrArg restL (drop_cons hx));rw [rest_cons] at hdr
   by_cases hcz:canon z = 0
   ·have hq2:(canon z != 0) = false:=by rw [hcz];rfl
    rw [hq2] at hc hdr;have hMc2:Hid (M.map canon = (restL (zs.drop (k + 1))).map canon):=hid (by rw [hMc.out,hdr.out,if_neg (by decide)]);have hac3:=hid (hac2.out 0 (by rw [hcz];exact canon_zero))
    have hab3:Hid (∀ z ∈ acc ++ [0],z < 2 * S):=hid (fun z h => by
     rw [List.mem_append,List.mem_singleton] at h
     rcases h with h | rfl
     ·exact hab.out z h
     ·decide)
    clear hx hcz hq2 hMc hac2 hdr;have hV4:=hV.out;have cv:wr.cell? ⟨bl,0,none⟩ = some _:=cell_at hV4 0;replace hV4:=hid hV4
    go_wp2_with (at_builtin;refine wpList_append_src (by rfl) _ _ 164 (by rfl) w3.heap.size 47 j0 (.float .f64 0) 1 8 Tryz.underlying164 hj hy0 hy1 hy2 rfl (by decide) _ acc.length (Rl.cellsF acc) (by rfl) (World.ownsRow.alloc hO.out _) _ 1 [.float .f64 0] (by rfl) rfl (src_new (alloc_new wr _) _) (Rl.one_float _) (by unfold maxLen;omega) (by omega) (by simp;omega) ?_;intro v6 w6 hown hgrow;obtain ⟨a6,c6,h6⟩:=(own_sl hown).len;subst h6;have hV6:VB bl _ w6:=(hgrow.block _ (by simp;omega) (fun e => by have:=(hlo.out _ e.symm).1;omega)).trans (alloc_at _ hV4.out);have cf:=free_at hV6 0;have cc:=cell_at hV6 0;have hO6:=hid (Rl.ownF_snoc hown);have hK6:=hid ((hK.out.alloc (.cells #[.float .f64 0] 47)).grown hgrow (fun j e hlt => by have:=(hlo.out j e).1;omega));clear hown hgrow)
    have hVf:=hid (show VB bl (.slice a6 (acc.length + 1) c6) (w6.setCell ⟨bl,0,none⟩ (.slice a6 (acc.length + 1) c6)) from (set_at hV6 0 _).trans rfl);have hKf:=hid (hK6.out.setCell (p:=⟨bl,0,none⟩) (fun _ => rfl) (.slice a6 (acc.length + 1) c6));have hOf:=hid (show Rl.OwnF (w6.setCell ⟨bl,0,none⟩ (.slice a6 (acc.length + 1) c6)) w3.heap.size (.slice a6 (acc.length + 1) c6) (acc ++ [0]) from Bd.own_setCell hO6.out (Nat.lt_of_lt_of_le hbl hsz3) _)
    go_roundw
    case rel => exact ⟨k + 1,M,acc ++ [0],_,by go_num,by omega,hM,hMc2,hVf,hOf,hab3,hac3,hKf⟩
    case measure => simp [intOf];omega
   ·have hq2:(canon z != 0) = true:=by rw [bne_iff_ne];exact hcz
    rw [hq2] at hc hdr
    have hMc1:M.map canon = canon z :: (restL (zs.drop (k + 1))).map canon:=by rw [hMc.out,hdr.out,if_pos rfl,List.map_cons]
    obtain ⟨m,M',rfl⟩:∃ m M',M = m :: M':=by
     cases M with
     | nil => exact absurd hMc1 (by simp)
     | cons m M' => exact ⟨m,M',rfl⟩
    rw [List.map_cons,List.cons.injEq] at hMc1;obtain ⟨hm,hMc2⟩:=hMc1;have hac3:=hid (hac2.out m hm);have hmb:m < 2 * S:=hM.out.2 m (by simp)
    have hab3:Hid (∀ z ∈ acc ++ [m],z < 2 * S):=hid (fun z h => by
     rw [List.mem_append,List.mem_singleton] at h
     rcases h with h | rfl
     ·exact hab.out z h
     ·exact hmb)
    have hHS:=hid (fun W => same_any m 0 W hmb (by decide))
    have hbq:(canon m == canon 0) = false:=by rw [hm,canon_zero];exact beq_eq_false_iff_ne.2 hcz
    rw [hbq] at hHS;replace hMc2:=hid hMc2;clear hMc;obtain ⟨⟨ar,cr,rfl,hn1,hn2⟩,hn3⟩:=hM.out;obtain ⟨b2,o2,rfl,hb2,hc2⟩:=hn2 (by simp);have hT:=flts_tail hM.out
    have hcm:wr.cell? ⟨b2,o2,none⟩ = some (.float .f64 m):=by
     have h9:=hc2 0 (by simp);exact vb_keep hV3 hK.out h9 (fun _ _ _ e => by cases e)
    rw [List.length_cons] at hn1 hT;clear hx hcz hq2 hac2 hdr hm hn2 hn3 hc2 hbq;have g1:∃ Lr,Lr = M'.length + 1:=⟨_,rfl⟩;obtain ⟨Lr,hLr⟩:=g1;rw [List.length_cons,← hLr];rw [← hLr] at hT hn1
    have hL0:(0:Int) < (Lr:Nat):=by omega
    have hL1:0 < Lr:=by omega
    have hL2:(1:Int) ≤ (Lr:Nat):=by omega
    have hL3:(Lr:Int) ≤ (cr:Nat):=by omega
    have hL4:(1:Int) ≤ (cr:Nat):=by omega
    have hL5:((Lr:Int) - 1).toNat = Lr - 1:=by omega
    have hL6:((cr:Int) - 1).toNat = cr - 1:=by omega
    clear hLr
    by_cases hcr:cr = 1
    ·subst hcr
     rw [if_pos rfl,show Lr - 1 = 0 by omega] at hT;have hT0:=hid hT;go_wp2_with fail;go_quiet (fail);go_wp2_with fail;refine (hHS.out _).mono ?_
     rintro e w5 ⟨rfl,hb5'⟩;have hb5:Below wr.heap.size wr w5:=(bel_drewN (Below.refl _ wr) _).trans hb5';have hO4:=hid (own_below hO.out hb5);have hV4:VB bl _ w5:=(hb5.block _ hwl).trans hV.out;have hK4:=hid (hK.out.below hb5);have cv:w5.cell? ⟨bl,0,none⟩ = some _:=cell_at hV4 0;have hs5:=hb5.size;clear hb5 hb5'
     go_wp2_with (at_builtin;refine wpList_append_src (by rfl) _ _ 164 (by rfl) w3.heap.size 47 j0 (.float .f64 0) 1 8 Tryz.underlying164 hj hy0 hy1 hy2 rfl (by decide) _ acc.length (Rl.cellsF acc) (by rfl) (World.ownsRow.alloc hO4.out _) _ 1 [.float .f64 m] (by rfl) rfl (src_new (alloc_new w5 _) _) (Rl.one_float _) (by unfold maxLen;omega) (by omega) (by simp;omega) ?_;intro v6 w6 hown hgrow;obtain ⟨a6,c6,h6⟩:=(own_sl hown).len;subst h6;have hV6:VB bl _ w6:=(hgrow.block _ (by simp;omega) (fun e => by have:=(hlo.out _ e.symm).1;omega)).trans (alloc_at _ hV4);have cf:=free_at hV6 0;have cc:=cell_at hV6 0;have hO6:=hid (Rl.ownF_snoc hown);have hK6:=hid ((hK4.out.alloc (.cells #[.float .f64 m] 47)).grown hgrow (fun j e hlt => by have:=(hlo.out j e).1;omega));clear hown hgrow)
     have hVf:=hid (show VB bl (.slice a6 (acc.length + 1) c6) (w6.setCell ⟨bl,0,none⟩ (.slice a6 (acc.length + 1) c6)) from (set_at hV6 0 _).trans rfl);have hKf:=hid (hK6.out.setCell (p:=⟨bl,0,none⟩) (fun _ => rfl) (.slice a6 (acc.length + 1) c6));have hOf:=hid (show Rl.OwnF (w6.setCell ⟨bl,0,none⟩ (.slice a6 (acc.length + 1) c6)) w3.heap.size (.slice a6 (acc.length + 1) c6) (acc ++ [m]) from Bd.own_setCell hO6.out (Nat.lt_of_lt_of_le hbl hsz3) _)
     go_roundw
     case rel => exact ⟨k + 1,M',acc ++ [m],_,by go_num,by omega,hT0,hMc2,hVf,hOf,hab3,hac3,hKf⟩
     case measure => simp [intOf];omega
    ·have hcr1:¬ cr = 1:=hcr
     have hcr2:¬ cr - 1 = 0:=by omega
     have hcr3:¬ (cr:Int) - 1 = 0:=by omega
     rw [if_neg hcr] at hT;go_wp2_with fail;go_quiet (fail);go_wp2_with fail;refine (hHS.out _).mono ?_
     rintro e w5 ⟨rfl,hb5'⟩;have hb5:Below wr.heap.size wr w5:=(bel_drewN (Below.refl _ wr) _).trans hb5';have hO4:=hid (own_below hO.out hb5);have hV4:VB bl _ w5:=(hb5.block _ hwl).trans hV.out;have hK4:=hid (hK.out.below hb5);have cv:w5.cell? ⟨bl,0,none⟩ = some _:=cell_at hV4 0;have hs5:=hb5.size;clear hb5 hb5'
     go_wp2_with (at_builtin;refine wpList_append_src (by rfl) _ _ 164 (by rfl) w3.heap.size 47 j0 (.float .f64 0) 1 8 Tryz.underlying164 hj hy0 hy1 hy2 rfl (by decide) _ acc.length (Rl.cellsF acc) (by rfl) (World.ownsRow.alloc hO4.out _) _ 1 [.float .f64 m] (by rfl) rfl (src_new (alloc_new w5 _) _) (Rl.one_float _) (by unfold maxLen;omega) (by omega) (by simp;omega) ?_;intro v6 w6 hown hgrow;obtain ⟨a6,c6,h6⟩:=(own_sl hown).len;subst h6;have hV6:VB bl _ w6:=(hgrow.block _ (by simp;omega) (fun e => by have:=(hlo.out _ e.symm).1;omega)).trans (alloc_at _ hV4);have cf:=free_at hV6 0;have cc:=cell_at hV6 0;have hO6:=hid (Rl.ownF_snoc hown);have hK6:=hid ((hK4.out.alloc (.cells #[.float .f64 m] 47)).grown hgrow (fun j e hlt => by have:=(hlo.out j e).1;omega));clear hown hgrow)
     have hVf:=hid (show VB bl (.slice a6 (acc.length + 1) c6) (w6.setCell ⟨bl,0,none⟩ (.slice a6 (acc.length + 1) c6)) from (set_at hV6 0 _).trans rfl);have hKf:=hid (hK6.out.setCell (p:=⟨bl,0,none⟩) (fun _ => rfl) (.slice a6 (acc.length + 1) c6));have hOf:=hid (show Rl.OwnF (w6.setCell ⟨bl,0,none⟩ (.slice a6 (acc.length + 1) c6)) w3.heap.size (.slice a6 (acc.length + 1) c6) (acc ++ [m]) from Bd.own_setCell hO6.out (Nat.lt_of_lt_of_le hbl hsz3) _)
     go_roundw
     case rel => exact ⟨k + 1,M',acc ++ [m],_,by go_num,by omega,hid hT,hMc2,hVf,hOf,hab3,hac3,hKf⟩
     case measure => simp [intOf];omega
  ·obtain rfl:k = zs.length:=by omega
   have hge:¬ ((zs.length:Int) < ((someL zs).length:Nat)):=by omega
   rw [List.take_length] at hac;go_wp2_with fail
   go_end0
   exact ⟨rfl,⟨y,acc,hV.out,own_mono hO.out hsz3,hab.out,hac.out⟩,(Kept.of_below hb1.out).trans hK.out⟩
theorem takeRanks_ok (zs:List Nat) (hz:∀ z ∈ zs,z < 2 * S) (hl:zs.length ≤ 400) (w:World) :
  Calls Tryz.prog 159 #[.string (str (ranksL zs)),.int .i64 (zs.length:Nat)] w fun e w' => (∃ y L,e = .returned (.tuple #[y,.int .i64 0]) ∧ Rl.Flts w' y L ∧ L.map canon = zs.map canon) ∧ Below w.heap.size w w':=by
 have hmf:∀ (fn:Fn) (first cap:Array Value) (w:World),(Instr.makeFunc fn first cap).run Tryz.prog w = .ok (.func fn first cap) w:=fun _ _ _ _ => rfl
 have hz':=hid hz;clear hz
 have hcf:∀ w1 a b c,(callFunc 209 #[a,b,c]).run Tryz.prog w1 = .ok (.enter 209 #[a,b,c]) w1:=fun _ _ _ _ => rfl
 have HG:=hid (fun (W:World) (a b c:Value) R => guard_ok 209 #[a,b,c] W R (fun w1 => hcf w1 a b c));clear hcf;go_enter Tryz.func159,Tryz.ntmps159;go_wp2_with fail
 have e0:(((w.alloc (Obj.cells #[Value.string (str (ranksL zs))] 9)).alloc (Obj.cells #[Value.int IntKind.i64 ↑zs.length] 3)).alloc (Obj.cells #[Value.slice none 0 0] 164)).heap.size = w.heap.size + 1 + 1 + 1:=by simp
 have e1:=alloc_at (.cells #[Value.slice none 0 0] 164) (alloc_at (.cells #[Value.int IntKind.i64 ↑zs.length] 3) (alloc_new w (.cells #[Value.string (str (ranksL zs))] 9)));have e2:=alloc_at (.cells #[Value.slice none 0 0] 164) (alloc_new_at (n:=w.heap.size + 1) (w:=w.alloc (.cells #[Value.string (str (ranksL zs))] 9)) (.cells #[Value.int IntKind.i64 ↑zs.length] 3) (by simp))
 have e3:=alloc_new_at (n:=w.heap.size + 1 + 1) (w:=(w.alloc (.cells #[Value.string (str (ranksL zs))] 9)).alloc (.cells #[Value.int IntKind.i64 ↑zs.length] 3)) (.cells #[Value.slice none 0 0] 164) (by simp);have e4:=(((Below.refl w.heap.size w).alloc (Nat.le_refl _) (.cells #[Value.string (str (ranksL zs))] 9)).alloc (by simp) (.cells #[Value.int IntKind.i64 ↑zs.length] 3)).alloc (by simp;omega) (.cells #[Value.slice none 0 0] 164)
 generalize ((w.alloc (Obj.cells #[Value.string (str (ranksL zs))] 9)).alloc (Obj.cells #[Value.int IntKind.i64 ↑zs.length] 3)).alloc (Obj.cells #[Value.slice none 0 0] 164) = W at *;refine (HG.out W _ _ _ (fun w' => T1 zs (w.heap.size + 1 + 1) (W.heap.size + 1) w' ∧ Kept (· = w.heap.size + 1 + 1) W w') (fun w1 hb hs => ?_)).mono ?_
 ·have g0:w1.heap[w.heap.size + 1 + 1]? = _:=(hb.block _ (by omega)).trans e3
  refine (take1_ok zs hz'.out hl _ _ _ w1 (cell_at (below_at hb e1 (by omega)) 0) (cell_at (below_at hb e2 (by omega)) 0) g0).mono ?_
  rintro e w2 ⟨rfl,⟨y,L,h1,h2,h3,h4⟩,hk⟩;exact ⟨rfl,hk.block _ hs (by omega),⟨y,L,h1,own_mono h2 hs,h3,h4⟩,(Kept.of_below hb).trans hk⟩
 ·rintro e w1 ⟨rfl,w2,⟨⟨y,L,h1,h2,h3,h4⟩,hk⟩,rfl⟩
  have hV:VB (w.heap.size + 1 + 1) y (w2.setCell ⟨W.heap.size,0,none⟩ (.int .i64 0)):=set_other h1 (by simp;omega) _;have hc:=cell_at hV 0;have hO:=hid (Rl.OwnF.flts (Bd.own_setCell h2 (by show W.heap.size < _;omega) (.int .i64 0):Rl.OwnF (w2.setCell ⟨W.heap.size,0,none⟩ (.int .i64 0)) (W.heap.size + 1) y L) h3);have hB:=hid (e4.trans (((hk.to_below (B:=w.heap.size) (by omega) (fun k h => by omega)).setCell (p:=⟨W.heap.size,0,none⟩) (by simp;omega) (.int .i64 0))));have h4':=hid h4;clear h1 h2 h3 hk hV h4 e0 e1 e2 e3 e4 HG
  generalize w2.setCell ⟨W.heap.size,0,none⟩ (.int .i64 0) = W5 at *;go_wp2_with fail;go_ret2;exact ⟨⟨y,L,rfl,hO.out,h4'.out⟩,hB.out⟩
end Og
end
section
open Go.RowKit
namespace Mem
structure Fam (w:World) (B:Nat) (L:List (TypeId × Value × List Value)):Prop where
 own:∀ (i:Nat) p,L[i]? = some p → w.ownsRow B p.1 1 p.2.1 p.2.2.length p.2.2
 ap:∀ (i j:Nat) p q,i ≠ j → L[i]? = some p → L[j]? = some q → Ap p.2.1 q.2.1
theorem ap_row {w:World} {B:Nat} {e:TypeId} {v:Value} {n:Nat} {xs:List Value} (h:w.ownsRow B e 1 v n xs):∀ k,v.ownBlock = some k → k < w.heap.size:=fun k e => (h.lt k e).2
theorem Fam.nil (w:World) (B:Nat) (ts:List TypeId):Fam w B (ts.map fun t => (t,.slice none 0 0,[])):=by
 refine ⟨fun i p h => ?_,fun i j p q _ hp _ => ?_⟩
 ·rw [List.getElem?_map] at h
  obtain ⟨t,_,rfl⟩:=Option.map_eq_some_iff.1 h;exact World.ownsRow_nil _ _ _ _
 ·rw [List.getElem?_map] at hp
  obtain ⟨t,_,rfl⟩:=Option.map_eq_some_iff.1 hp;exact ap_nil' _
theorem Fam.alloc {w:World} {B:Nat} {L} (h:Fam w B L) (o:Obj):Fam (w.alloc o) B L:=⟨fun i p hp => (h.own i p hp).alloc o,h.ap⟩
theorem Fam.below {w w':World} {B:Nat} {L} (h:Fam w B L) (hb:Below w.heap.size w w'):Fam w' B L:=⟨fun i p hp => own_below (h.own i p hp) hb,h.ap⟩
theorem Fam.drew {w:World} {B:Nat} {L} (h:Fam w B L):Fam w.drew B L:=h.below (Below.refl _ _).drew
theorem Fam.app {w w':World} {B:Nat} {L:List (TypeId × Value × List Value)} (h:Fam w B L) {i:Nat} {e:TypeId} {v v':Value} {xs:List Value} {x:Value} (hi:L[i]? = some (e,v,xs))
  (hO:w'.ownsRow B e 1 v' (xs.length + 1) (xs ++ [x])) (hg:w.grownBy w' v.ownBlock) (hn:Near w v v'):Fam w' B (L.set i (e,v',xs ++ [x])):=by
 have hlt:=(List.getElem?_eq_some_iff.1 hi).1;refine ⟨fun j p hp => ?_,fun j k p q hjk hp hq => ?_⟩
 ·rw [List.getElem?_set] at hp
  by_cases hij:i = j
  ·rw [if_pos hij,if_pos (hij ▸ hlt)] at hp
   obtain rfl:=Option.some.inj hp;rw [List.length_append,List.length_singleton];exact hO
  ·rw [if_neg hij] at hp
   exact (h.ap j i p _ (fun e => hij e.symm) hp hi).kept (h.own j p hp) hg
 ·rw [List.getElem?_set] at hp hq
  by_cases hij:i = j
  ·rw [if_pos hij,if_pos (hij ▸ hlt)] at hp
   obtain rfl:=Option.some.inj hp;rw [if_neg (by omega)] at hq;exact (Ap.near (h.ap k i q _ (by omega) hq hi) hn (ap_row (h.own k q hq))).symm
  ·rw [if_neg hij] at hp
   by_cases hik:i = k
   ·rw [if_pos hik,if_pos (hik ▸ hlt)] at hq
    obtain rfl:=Option.some.inj hq;exact Ap.near (h.ap j i p _ (by omega) hp hi) hn (ap_row (h.own j p hp))
   ·rw [if_neg hik] at hq
    exact h.ap j k p q hjk hp hq
theorem fam_own {w:World} {B:Nat} {L:List (TypeId × Value × List Value)} (h:Fam w B L) {i:Nat} {e:TypeId} {v:Value} {xs:List Value} (hi:L[i]? = some (e,v,xs)):w.ownsRow B e 1 v xs.length xs:=h.own i _ hi
theorem second_new (w:World) (o o':Obj):((w.alloc o).alloc o').heap[w.heap.size + 1]? = some o':=by
 have:=alloc_new (w.alloc o) o';rw [World.size_alloc] at this;exact this
theorem fam_other {w w':World} {v:Value} (hg:w.grownBy w' v.ownBlock) {b:Nat} {o:Obj} (hb:w.heap[b]? = some o) (hne:v.ownBlock ≠ some b):w'.heap[b]? = some o:=
 (hg.block b (lt_of_block hb) (fun e => hne e.symm)).trans hb
theorem fam_not {w:World} {B:Nat} {L:List (TypeId × Value × List Value)} (h:Fam w B L) {i:Nat} {e:TypeId} {v:Value} {xs:List Value} (hi:L[i]? = some (e,v,xs)) {b:Nat} {cs:Array Value} {t:TypeId} {f:Nat × Nat} (hb:w.heap[b]? = some (.cells cs t f)) (hne:e ≠ t):v.ownBlock ≠ some b:=fun e' => by
 rcases (h.own i _ hi).2 with h2 | ⟨g,cap,cur,ev,-,hh,-⟩
 ·have h3:v = .slice none 0 0:=h2.1
  rw [h3] at e'
  cases e'
 ·have ev':v = .slice (some ⟨g,0,none⟩) xs.length cap:=ev
  rw [ev'] at e';obtain rfl:g = b:=Option.some.inj e';rw [hb] at hh
  cases hh
  exact hne rfl
theorem one_cell {v:Value} (h:v.oneCell' = true):∀ x ∈ [v],x.oneCell' = true:=fun x hx => by
 rw [List.mem_singleton] at hx;subst hx;exact h
end Mem
end
section
open Go.RowKit
namespace Mr
open Mem Tp
theorem alloc_new_at {w:World} {n:Nat} (x:Obj) (h:w.heap.size = n):(w.alloc x).heap[n]? = some x:=by subst h;exact alloc_new w x
def nextV (o:Option Tm):Value:=match o with
 | none => .tuple #[tmV ⟨0,0⟩,.bool false]
 | some t => .tuple #[tmV t,.bool true]
theorem top_eq (fl:Tm) (v:List Mk):(fl.c :: v.map (·.cnt)).foldl max 0 = topM fl v:=by
 unfold topM;rw [List.foldl_cons,List.foldl_map]
theorem infoInt:(Tryz.prog.info? 3).map (fun i => (i.zero,i.size,i.bytes)) = some (some (.int .i64 0),1,8):=by kernel_rfl
theorem infoTime:(Tryz.prog.info? 24).map (fun i => (i.zero,i.size,i.bytes)) = some (some (.agg #[.int .i64 0,.int .i64 0]),2,16):=by kernel_rfl
theorem next_any (v:Value) (l:List Mk) (fl:Tm) (who:Int) (w:World) (hS:Mem.Mks w v l) (hl:l.length ≤ 4000) :
  Calls Tryz.prog 100 #[v,tmV fl,.int .i64 who] w fun e w' => e = .returned (nextV (nextM l fl who)) ∧ Below w.heap.size w w':=by
 obtain ⟨i0,hi,hz0,hz1,hz2⟩:=info_parts infoInt
 have htin:(Tryz.prog.info? 24).map (·.size) = some 2:=by obtain ⟨i1,hi1,-,h1,-⟩:=info_parts infoTime;rw [hi1];simp [h1]
 obtain ⟨a,c,rfl⟩:=hS.len;have HS:=hid hS;have HG:=hid (fun (W:World) (u:Value) (h:Is W u (fl.c :: l.map (·.cnt))) => greatest_any u (fl.c :: l.map (·.cnt)) 0 W h (by simp;omega));rw [top_eq] at HG;clear hS;unfold tmV;go_enter Tryz.func100,Tryz.ntmps100;go_wp2_with fail;have hb0:=hid ((((Below.refl w.heap.size w).alloc (Nat.le_refl _) (.cells #[.int .i64 fl.c,.int .i64 fl.r] 24)).alloc (by simp) (.cells #[.int .i64 0,.int .i64 0] 24)).alloc (by simp;omega) (.cells #[.int .i64 fl.c] 3))
 have hg1:Hid ((((w.alloc (.cells #[.int .i64 fl.c,.int .i64 fl.r] 24)).alloc (.cells #[.int .i64 0,.int .i64 0] 24)).alloc (.cells #[.int .i64 fl.c] 3)).heap[w.heap.size + 1]? = some (.cells #[.int .i64 0,.int .i64 0] 24 (0,0))):=hid (alloc_at _ (by
  have:=alloc_new (w.alloc (.cells #[.int .i64 fl.c,.int .i64 fl.r] 24)) (.cells #[.int .i64 0,.int .i64 0] 24)
  simpa using this))
 have hg2:(((w.alloc (.cells #[.int .i64 fl.c,.int .i64 fl.r] 24)).alloc (.cells #[.int .i64 0,.int .i64 0] 24)).alloc (.cells #[.int .i64 fl.c] 3)).heap[w.heap.size + 1 + 1]? = some (.cells #[.int .i64 fl.c] 3 (0,0)):=by
  have:=alloc_new ((w.alloc (.cells #[.int .i64 fl.c,.int .i64 fl.r] 24)).alloc (.cells #[.int .i64 0,.int .i64 0] 24)) (.cells #[.int .i64 fl.c] 3)
  simpa using this
 have hO0:Hid ((((w.alloc (.cells #[.int .i64 fl.c,.int .i64 fl.r] 24)).alloc (.cells #[.int .i64 0,.int .i64 0] 24)).alloc (.cells #[.int .i64 fl.c] 3)).ownsRow (w.heap.size + 1 + 1) 3 1 (.slice (some ⟨w.heap.size + 1 + 1,0,none⟩) 1 1) 1 [.int .i64 fl.c]):=hid ⟨rfl,.inr ⟨_,1,_,rfl,Nat.le_refl _,hg2,Nat.le_refl _,by unfold maxLen;omega,rfl,rfl⟩⟩;clear hg2;generalize ((w.alloc (.cells #[.int .i64 fl.c,.int .i64 fl.r] 24)).alloc (.cells #[.int .i64 0,.int .i64 0] 24)).alloc (.cells #[.int .i64 fl.c] 3) = W at *
 go_loopw [8,17] (fun o i wr => ∃ k:Nat,i = .int .i64 k ∧ k ≤ l.length ∧ Hid (wr.ownsRow (w.heap.size + 1 + 1) 3 1 o (k + 1) ((fl.c :: (l.take k).map (·.cnt)).map i64C)) ∧ Hid (Below w.heap.size w wr) ∧ Hid (wr.heap[w.heap.size + 1]? = some (.cells #[.int .i64 0,.int .i64 0] 24 (0,0)))) (fun _ i _ => l.length - (intOf i).toNat)
 case atStart => exact ⟨0,rfl,by omega,hO0,hb0,hg1⟩
 case round =>
  clear hO0 hb0 hg1;obtain ⟨k,rfl,hk,hO,hb,hg⟩:=hrel
  by_cases hlt:k < l.length
  ·have hlt':(k:Int) < (l.length:Nat):=by omega
   obtain ⟨x,hx⟩:=some_at hlt;obtain ⟨b,off,rfl⟩:=HS.out.addr (by omega);obtain ⟨q0,q1⟩:=mk_at (HS.out.below hb.out) rfl hx;have hsn:Hid ((fl.c :: (l.take k).map (·.cnt)).map i64C ++ [.int .i64 x.cnt] = (fl.c :: (l.take (k + 1)).map (·.cnt)).map i64C):=hid (by rw [take_snoc hx];simp [i64C]);have hwl:=lt_of_block hg.out;have hlo:=hid hO.out.lt;have hOx:=hid (World.ownsRow.alloc hO.out (.cells #[.int .i64 x.rep,.int .i64 x.cnt] 112));have hbx:=hid (hb.out.alloc (by omega) (.cells #[.int .i64 x.rep,.int .i64 x.cnt] 112))
   have hgx:=hid (alloc_at (.cells #[.int .i64 x.rep,.int .i64 x.cnt] 112) hg.out);generalize (fl.c :: (l.take k).map (·.cnt)).map i64C = cs at *;clear hx hO hb hg
   go_wp2_with (at_builtin;refine wpList_append_src (by rfl) _ _ 82 (by rfl) (w.heap.size + 1 + 1) 3 i0 _ 1 8 Tryz.underlying82 hi hz0 hz1 hz2 rfl (by decide) _ (k + 1) cs (by rfl) (World.ownsRow.alloc hOx.out _) _ 1 [.int .i64 x.cnt] (by rfl) rfl (src_new (alloc_new_at (n:=wr.heap.size + 1) _ (by simp)) _) (by intro u hu;rw [List.mem_singleton.1 hu];rfl) (by unfold maxLen;omega) (by omega) (by simp;omega) ?_;intro v5 w5 hown hgrow;replace hown:=hid hown;replace hgrow:=hid hgrow)
   have hO5:Hid (w5.ownsRow (w.heap.size + 1 + 1) 3 1 v5 (k + 1 + 1) ((fl.c :: (l.take (k + 1)).map (·.cnt)).map i64C)):=hid (by rw [← hsn.out];exact hown.out);have hb5:=hid ((hbx.out.alloc (by simp;omega) (.cells #[.int .i64 x.cnt] 3)).grown hgrow.out (by simp;omega) (fun j e => by have:=(hlo.out _ e).1;omega));have hg5:Hid (w5.heap[w.heap.size + 1]? = some (.cells #[.int .i64 0,.int .i64 0] 24 (0,0))):=hid ((hgrow.out.block _ (by simp;omega) (fun e => by have:=(hlo.out _ e.symm).1;omega)).trans (alloc_at _ hgx.out))
   go_roundw
   case rel => exact ⟨k + 1,by go_num,by omega,hO5,hb5,hg5⟩
   case measure => simp [intOf];omega
  ·obtain rfl:k = l.length:=by omega
   have hge:¬ ((l.length:Int) < (l.length:Nat)):=by omega
   rw [List.take_length] at hO
   have hI:Hid (Is wr _ (fl.c :: l.map (·.cnt))):=hid (by
    have:=own_sl hO.out;unfold Is
    rwa [List.length_cons,List.length_map])
   go_wp2_with fail;refine (HG.out _ _ hI.out).mono ?_
   rintro e w3 ⟨rfl,rfl⟩;have f0:=free_at hg.out 0;have f1:=free_at hg.out 1;have c0:wr.cell? ⟨w.heap.size + 1,0,none⟩ = some (.int .i64 0):=cell_at hg.out 0;have c1:wr.cell? ⟨w.heap.size + 1,1,none⟩ = some (.int .i64 0):=cell_at hg.out 1
   have hN:nextM l fl who = if 4611686018427387903 ≤ topM fl l ∨ who < 1 ∨ 255 < who then none else some ⟨topM fl l + 1,who⟩:=rfl
   have ht0:0 ≤ topM fl l:=by
    rw [← top_eq]
    have:∀ (l:List Int) (x:Int),x ≤ l.foldl max x:=by
     intro l
     induction l with
     | nil => intro x;simp
     | cons y l ih => intro x;rw [List.foldl_cons];have:=ih (max x y);omega
    exact this _ _
   generalize topM fl l = n at *
   have hfin:∀ (x y:Int) (b:Bool) (tmps:Array Value),tmps.getD 6 undef = .pointer (some ⟨w.heap.size + 1,0,none⟩) → tmps.getD 7 undef = .bool b →
     (results Tryz.f100 tmps).run Tryz.prog ((wr.setCell ⟨w.heap.size + 1,0,none⟩ (.int .i64 x)).setCell ⟨w.heap.size + 1,1,none⟩ (.int .i64 y)) = .ok (.tuple #[tmV ⟨x,y⟩,.bool b]) ((wr.setCell ⟨w.heap.size + 1,0,none⟩ (.int .i64 x)).setCell ⟨w.heap.size + 1,1,none⟩ (.int .i64 y)):=by
    intro x y b tmps h6 h7;have hgf:=set_at (set_at hg.out 0 (.int .i64 x)) 1 (.int .i64 y);have hl:=run_loadVar_row (P:=Tryz.prog) ((wr.setCell ⟨w.heap.size + 1,0,none⟩ (.int .i64 x)).setCell ⟨w.heap.size + 1,1,none⟩ (.int .i64 y)) (w.heap.size + 1) 24 24 #[.int .i64 x,.int .i64 y] (0,0) _ hgf Tryz.underlying24 rfl (by rw [htin];rfl);rw [results_cell_tmp rfl,h6,h7];simp only [asAddr,Sem.run_pure,Result.andThen_ok,hl]
    rfl
   have hbf:=hid (fun (x y:Int) => (hb.out.setCell (p:=⟨w.heap.size + 1,0,none⟩) (by show w.heap.size ≤ w.heap.size + 1;omega) (.int .i64 x)).setCell (p:=⟨w.heap.size + 1,1,none⟩) (by show w.heap.size ≤ w.heap.size + 1;omega) (.int .i64 y));replace hfin:=hid hfin;replace hN:=hid hN
   by_cases h1:4611686018427387903 ≤ n
   ·have d1:=decide_eq_true h1
    have hr:Hid (nextM l fl who = none):=hid (by rw [hN.out,if_pos (by omega)]);clear hN;go_wp2_with fail;refine bodyPost_ret (hfin.out 0 0 false _ rfl rfl) rfl ?_
    exact ⟨by rw [hr.out];rfl,hbf.out _ _⟩
   ·by_cases h2:who < 1
    ·have d1:=decide_eq_false h1
     have d2:=decide_eq_true h2;have hr:Hid (nextM l fl who = none):=hid (by rw [hN.out,if_pos (by omega)]);clear hN;go_wp2_with fail;refine bodyPost_ret (hfin.out 0 0 false _ rfl rfl) rfl ?_
     exact ⟨by rw [hr.out];rfl,hbf.out _ _⟩
    ·by_cases h3:255 < who
     ·have d1:=decide_eq_false h1
      have d2:=decide_eq_false h2;have d3:=decide_eq_true h3;have hr:Hid (nextM l fl who = none):=hid (by rw [hN.out,if_pos (by omega)]);clear hN;go_wp2_with fail;refine bodyPost_ret (hfin.out 0 0 false _ rfl rfl) rfl ?_
      exact ⟨by rw [hr.out];rfl,hbf.out _ _⟩
     ·have d1:=decide_eq_false h1
      have d2:=decide_eq_false h2;have d3:=decide_eq_false h3
      have hw:IntKind.i64.wrap (n + 1) = n + 1:=by rw [IntKind.wrap_i64];omega
      have hr:Hid (nextM l fl who = some ⟨n + 1,who⟩):=hid (by rw [hN.out,if_neg (by omega)]);clear hN;go_wp2_with fail;refine bodyPost_ret (hfin.out (n + 1) who true _ rfl rfl) rfl ?_
      exact ⟨by rw [hr.out];rfl,hbf.out _ _⟩
end Mr
end
section
open Go.RowKit
namespace Dl
open Mem Pk
def cellsI (l:List Int):List Value:=l.map (Value.int .i64)
theorem cellsI_append (l m:List Int):cellsI (l ++ m) = cellsI l ++ cellsI m:=by unfold cellsI;simp
def OwnI (w:World) (base:Nat) (v:Value) (l:List Int):Prop:=w.ownsRow base 3 1 v l.length (cellsI l)
theorem ownI_nil (w:World) (base:Nat):OwnI w base (.slice none 0 0) []:=World.ownsRow_nil w base _ 1
theorem ownI_snoc {w:World} {base:Nat} {v:Value} {acc:List Int} {m:Int} (h:w.ownsRow base 3 1 v (acc.length + 1) (cellsI acc ++ [.int .i64 m])):OwnI w base v (acc ++ [m]):=by
 unfold OwnI;rw [cellsI_append,List.length_append,List.length_singleton];exact h
theorem one_int (m:Int):∀ x ∈ [Value.int .i64 m],x.oneCell' = true:=fun x hx => by simp at hx;subst hx;rfl
theorem infoI:(Tryz.prog.info? 3).map (fun i => (i.zero,i.size,i.bytes)) = some (some (.int .i64 0),1,8):=by kernel_rfl
def I64 (n:Int):Prop:=-9223372036854775808 ≤ n ∧ n ≤ 9223372036854775807
theorem i64_wrap (n:Int):I64 (wrap64 n):=by
 unfold I64 wrap64;omega
theorem i64_zero:I64 0:=by unfold I64;omega
theorem OwnI.ints {w:World} {base:Nat} {v:Value} {l:List Int} (h:OwnI w base v l) (hb:∀ n ∈ l,I64 n):Opened.Ints .i64 w v l:=by
 obtain ⟨h1,h2⟩:=h;refine ⟨?_,fun n hn => hb n hn⟩
 rcases h2 with ⟨rfl,h0⟩ | ⟨g,cap,cur,rfl,hg,hh,hn,hm,hs,ht⟩
 ·exact ⟨none,0,by rw [h0],fun h => by omega⟩
 ·refine ⟨_,cap,rfl,fun _ => ⟨g,0,rfl,lt_of_block hh,fun j hj => ?_⟩⟩
  rw [cell_at hh]
  have e2:(cellsI l)[j]? = some (.int .i64 (l.getD j 0)):=by unfold cellsI;simp [hj,List.getD]
  rw [← ht,List.getElem?_take_of_lt (by omega)] at e2;rw [← e2];simp
theorem ints_nil (k:IntKind) (w:World):Opened.Ints k w (.slice none 0 0) []:=⟨⟨none,0,rfl,fun h => by simp at h⟩,fun n hn => by simp at hn⟩
def subs (last:Int):List Int → List Int
 | [] => []
 | n :: l => wrap64 (n - last) :: subs n l
def sums (acc:Int):List Int → List Int
 | [] => []
 | x :: d => wrap64 (acc + x) :: sums (wrap64 (acc + x)) d
def enc (d:List Int):List UInt8:=d.flatMap fun x => putL (zigN x)
theorem drop_here (zs:List Int) (k:Nat) (h:k < zs.length):zs.drop k = zs[k]?.getD 0 :: zs.drop (k + 1):=by
 rw [List.drop_eq_getElem_cons h,List.getElem?_eq_getElem h]
 rfl
structure SumsAt (d:List Int) (k:Nat) (acc:Int) (out:List Int):Prop where
 eq:sums 0 d = out ++ sums acc (d.drop k)
 len:out.length = k
 bound:∀ n ∈ out,I64 n
 acc:I64 acc
theorem SumsAt.start (d:List Int):SumsAt d 0 0 []:=⟨rfl,rfl,fun _ h => by simp at h,i64_zero⟩
theorem SumsAt.next {d:List Int} {k:Nat} {acc:Int} {out:List Int} (h:SumsAt d k acc out) (hk:k < d.length):SumsAt d (k + 1) (wrap64 (acc + d[k]?.getD 0)) (out ++ [wrap64 (acc + d[k]?.getD 0)]):=by
 refine ⟨?_,by rw [List.length_append,h.len];rfl,fun n hn => ?_,i64_wrap _⟩
 ·rw [h.eq,drop_here d k hk,List.append_assoc];rfl
 ·rw [List.mem_append,List.mem_singleton] at hn
  rcases hn with hn | rfl
  ·exact h.bound n hn
  ·exact i64_wrap _
theorem SumsAt.whole {d:List Int} {acc:Int} {out:List Int} (h:SumsAt d d.length acc out):sums 0 d = out:=by
 rw [h.eq,List.drop_eq_nil_of_le (Nat.le_refl _)];exact List.append_nil _
end Dl
end
section
open Go.RowKit
namespace Dl
open Mem Pk
theorem _root_.Go.RowKit.Below.grownI {w wr w3:World} {v:Value} {n:Nat} {x:Obj} {xs:List Value} (hb:Below w.heap.size w wr) (hg:(wr.alloc x).grownBy w3 v.ownBlock) (hO:wr.ownsRow w.heap.size 3 1 v n xs):Below w.heap.size w w3:=
 (hb.alloc hb.size x).grown hg (by have:=hb.size;simp;omega) (fun k e => (hO.lt k e).1)
theorem sums_any (v:Value) (d:List Int) (w:World) (hv:Opened.Ints .i64 w v d) (hl:d.length ≤ 100000) :
  Calls Tryz.prog 204 #[v] w fun e w' => (∃ r,e = .returned r ∧ Opened.Ints .i64 w' r (sums 0 d)) ∧ Below w.heap.size w w':=by
 obtain ⟨i0,hi,hz0,hz1,hz2⟩:=info_parts infoI;obtain ⟨⟨a,cap,rfl,hcells⟩,hbound⟩:=hv;have HC:=hid hcells;have HB:=hid hbound;clear hcells hbound;go_enter Tryz.func204,Tryz.ntmps204;go_wp2_with fail
 go_loopw [3,4,9] (fun r x i wr => ∃ (k:Nat) (acc:Int) (out:List Int),x = .int .i64 acc ∧ i = .int .i64 k ∧ k ≤ d.length ∧ Hid (SumsAt d k acc out) ∧ Hid (OwnI wr w.heap.size r out) ∧ Below w.heap.size w wr) (fun _ _ i _ => d.length - (intOf i).toNat)
 case atStart => exact ⟨0,0,[],rfl,rfl,by omega,hid (SumsAt.start d),hid (ownI_nil _ _),Below.refl _ _⟩
 case round =>
  obtain ⟨k,acc,out,rfl,rfl,hk,hS,hO,hb⟩:=hrel
  by_cases hlt:k < d.length
  ·obtain ⟨cb,off,rfl,hcb,hcell⟩:=HC.out (by omega)
   have hck:wr.cell? ⟨cb,off + k,none⟩ = some (.int .i64 (d.getD k 0)):=(hb.cell (p:=⟨cb,off + k,none⟩) hcb).trans (hcell k hlt)
   have hlt':(k:Int) < d.length:=by omega
   have hgd:d.getD k 0 = d[k]?.getD 0:=rfl;rw [hgd] at hck;have hS2:=hid (hS.out.next hlt);have hlen:=hS.out.len;clear hcell hgd hS hlt;generalize d[k]?.getD 0 = c at *;have hO':=hO.out;unfold OwnI at hO';have hsz:=hb.size
   go_wp2_with (at_builtin;refine wpList_append_own _ rfl _ _ 82 rfl w.heap.size 3 i0 (.int .i64 0) 1 8 Tryz.underlying82 hi hz0 hz1 hz2 rfl (by decide) _ _ _ rfl (hO'.alloc _) ⟨wr.heap.size,0,none⟩ 1 1 [.int .i64 (wrap64 (acc + c))] rfl rfl (cell_one_new _ _ _) (one_int _) (by unfold maxLen;omega) (by omega) (by simp;omega) ?_;intro v' w3 hown hgrow _)
   have hO2:OwnI w3 w.heap.size v' (out ++ [wrap64 (acc + c)]):=ownI_snoc hown;have hB:=hb.grownI hgrow hO';clear hown hgrow hO';go_wp2_with fail
   go_roundw
   case rel => exact ⟨k + 1,_,_,rfl,by go_num,by omega,hS2,hid hO2,hB⟩
   case measure => simp [intOf];omega
  ·obtain rfl:k = d.length:=by omega
   have hge:decide (d.length < d.length) = false:=decide_eq_false hlt;have hr:=hO.out.ints hS.out.bound;rw [← hS.out.whole] at hr;clear hlt hO hS HC HB;go_wp2_with fail;go_ret;exact ⟨⟨_,rfl,hr⟩,hb⟩
end Dl
end
section
open Go.RowKit
namespace Dl
open Mem Pk
def rise:List Int → Bool
 | [] => true
 | a :: l => (match l with | [] => true | b :: _ => decide (a < b)) && rise l
theorem rise_short {l:List Int} (h:l.length ≤ 1):rise l = true:=by
 match l,h with
 | [],_ => rfl
 | [a],_ => rfl
theorem rise_step {l:List Int} {k:Nat} (h:k + 1 < l.length):rise (l.drop k) = (decide (l[k]?.getD 0 < l[k + 1]?.getD 0) && rise (l.drop (k + 1))):=by
 rw [drop_here l k (by omega),drop_here l (k + 1) h]
 rfl
theorem same_upto {a b:List Int} {k:Nat} (hl:a.length = b.length) (h:a.take k = b.take k) (hk:k < a.length) (he:a[k]?.getD 0 = b[k]?.getD 0):a.take (k + 1) = b.take (k + 1):=by
 have hb:k < b.length:=by omega
 rw [List.getElem?_eq_getElem hk,List.getElem?_eq_getElem hb] at he;rw [List.take_succ_eq_append_getElem hk,List.take_succ_eq_append_getElem hb,h];have he':a[k] = b[k]:=he;rw [he']
theorem row_cell {k:IntKind} {w w':World} {v:Value} {l:List Int} (h:Opened.Ints k w v l) (hb:Below w.heap.size w w'):∃ (a:Option Addr) (cap:Nat),v = .slice a l.length cap ∧ (0 < l.length → ∃ b off,a = some ⟨b,off,none⟩ ∧ b < w.heap.size ∧ ∀ j,j < l.length → w'.cell? ⟨b,off + j,none⟩ = some (.int k (l[j]?.getD 0))):=by
 obtain ⟨⟨a,cap,e,hc⟩,_⟩:=h;refine ⟨a,cap,e,fun h0 => ?_⟩
 obtain ⟨b,off,e1,e2,e3⟩:=hc h0;exact ⟨b,off,e1,e2,fun j hj => (hb.cell (p:=⟨b,off + j,none⟩) e2).trans (e3 j hj)⟩
theorem same_any (va vb:Value) (a b:List Int) (w:World) (ha:Opened.Ints .i64 w va a) (hb:Opened.Ints .i64 w vb b) (hl:a.length ≤ 100000) :
  Calls Tryz.prog 35 #[va,vb] w fun e w' => e = .returned (.bool (decide (a = b))) ∧ Below w.heap.size w w':=by
 obtain ⟨⟨pa,ca,rfl,hca⟩,-⟩:=ha;obtain ⟨⟨pb,cb,rfl,hcb⟩,-⟩:=hb;have HA:=hid hca;have HB:=hid hcb;clear hca hcb
 by_cases hn:a.length = b.length
 ·have HN:=hid hn
  rw [← hn];clear hn;go_enter Tryz.func35,Tryz.ntmps35;go_wp2_with fail
  go_loopw [5] (fun i wr => ∃ k:Nat,i = .int .i64 k ∧ k ≤ a.length ∧ Hid (a.take k = b.take k) ∧ Below w.heap.size w wr) (fun i _ => a.length - (intOf i).toNat)
  case atStart => exact ⟨0,rfl,by omega,hid rfl,Below.refl _ _⟩
  case round =>
   obtain ⟨k,rfl,hk,hT,hb⟩:=hrel
   by_cases hlt:k < a.length
   ·obtain ⟨ba,oa,rfl,hba,hcella⟩:=HA.out (by omega)
    obtain ⟨bb,ob,rfl,hbb,hcellb⟩:=HB.out (by have:=HN.out;omega);have hc1:wr.cell? ⟨ba,oa + k,none⟩ = some (.int .i64 (a[k]?.getD 0)):=(hb.cell (p:=⟨ba,oa + k,none⟩) hba).trans (hcella k hlt);have hc2:wr.cell? ⟨bb,ob + k,none⟩ = some (.int .i64 (b[k]?.getD 0)):=(hb.cell (p:=⟨bb,ob + k,none⟩) hbb).trans (hcellb k (by have:=HN.out;omega))
    have hlt':(k:Int) < a.length:=by omega
    have HT:=hid (same_upto HN.out hT.out hlt);have HF:Hid (a = b → a[k]?.getD 0 = b[k]?.getD 0):=hid (fun h => by rw [h]);clear hcella hcellb hlt hT;generalize a[k]?.getD 0 = x at *;generalize b[k]?.getD 0 = y at *
    by_cases he:x = y
    ·subst he
     have HT2:=hid (HT.out rfl);clear HT HF
     have hne:(x != x) = false:=by simp
     go_wp2_with fail
     go_region
     go_wp2_with fail
     go_roundw
     case rel => exact ⟨k + 1,by go_num,by omega,HT2,hb.drew⟩
     case measure => simp [intOf];omega
    ·have hd:decide (a = b) = false:=decide_eq_false (fun h => he (HF.out h))
     have hne:(x != y) = true:=by rw [bne_iff_ne];exact he
     replace hd:=hid hd;clear HF HT he;go_wp2_with fail
     go_region
     go_wp2_with fail;go_ret;exact ⟨by rw [hd.out];rfl,hb.drew⟩
   ·obtain rfl:k = a.length:=by omega
    have hge:decide (a.length < a.length) = false:=decide_eq_false hlt
    have hd:decide (a = b) = true:=decide_eq_true (by
     have h1:=hT.out;have h2:=HN.out;rw [List.take_of_length_le (Nat.le_refl _),h2,List.take_of_length_le (Nat.le_refl _)] at h1
     exact h1)
    replace hd:=hid hd;clear hlt hT HA HB;go_wp2_with fail;go_ret;exact ⟨by rw [hd.out];rfl,hb⟩
 ·have hd:decide (a = b) = false:=decide_eq_false (fun h => hn (by rw [h]))
  have hne:((a.length:Int) != (b.length:Int)) = true:=by rw [bne_iff_ne];omega
  rw [hd];clear hd hn;go_enter Tryz.func35,Tryz.ntmps35;go_wp2_with fail;go_ret;exact ⟨rfl,Below.refl _ _⟩
theorem rising_any (v:Value) (a:List Int) (w:World) (ha:Opened.Ints .i64 w v a) (hl:a.length ≤ 1000) :
  Calls Tryz.prog 198 #[v] w fun e w' => e = .returned (.bool (rise a)) ∧ Below w.heap.size w w':=by
 obtain ⟨⟨pa,ca,rfl,hca⟩,-⟩:=ha;have HA:=hid hca;clear hca;go_enter Tryz.func198,Tryz.ntmps198;go_wp2_with fail
 go_loopw [3] (fun i wr => ∃ k:Nat,i = .int .i64 ((k + 1:Nat):Int) ∧ k ≤ a.length ∧ Hid (rise a = rise (a.drop k)) ∧ Below w.heap.size w wr) (fun i _ => a.length + 1 - (intOf i).toNat)
 case atStart => exact ⟨0,rfl,by omega,hid rfl,Below.refl _ _⟩
 case round =>
  obtain ⟨k,rfl,hk,hT,hb⟩:=hrel
  by_cases hlt:k + 1 < a.length
  ·obtain ⟨ba,oa,rfl,hba,hcella⟩:=HA.out (by omega)
   have hc1:wr.cell? ⟨ba,oa + k,none⟩ = some (.int .i64 (a[k]?.getD 0)):=(hb.cell (p:=⟨ba,oa + k,none⟩) hba).trans (hcella k (by omega));have hc2:wr.cell? ⟨ba,oa + (k + 1),none⟩ = some (.int .i64 (a[k + 1]?.getD 0)):=(hb.cell (p:=⟨ba,oa + (k + 1),none⟩) hba).trans (hcella (k + 1) hlt)
   have hlt':((k + 1:Nat):Int) < a.length:=by omega
   have hlt2:(k:Int) < a.length:=by omega
   have HS:=hid (hT.out.trans (rise_step hlt));clear hcella hlt hT;generalize a[k]?.getD 0 = x at *;generalize a[k + 1]?.getD 0 = y at *
   by_cases he:x < y
   ·have hd:decide (x < y) = true:=decide_eq_true he
    rw [hd,Bool.true_and] at HS;have hn:decide (y ≤ x) = false:=decide_eq_false (by omega);clear hd he;go_wp2_with fail
    go_region
    go_wp2_with fail
    go_roundw
    case rel => exact ⟨k + 1,by go_num,by omega,HS,hb.drew⟩
    case measure => simp [intOf];omega
   ·have hd:decide (x < y) = false:=decide_eq_false he
    rw [hd,Bool.false_and] at HS;have hn:decide (y ≤ x) = true:=decide_eq_true (by omega);clear hd he;go_wp2_with fail
    go_region
    go_wp2_with fail;go_ret;exact ⟨by rw [HS.out];rfl,hb.drew⟩
  ·have hR:=hid (hT.out.trans (rise_short (by rw [List.length_drop];omega)))
   have hge:decide (k + 1 < a.length) = false:=decide_eq_false hlt;have hge':decide ((k:Int) + 1 < (a.length:Int)) = false:=decide_eq_false (by omega);clear hlt hT HA;go_wp2_with fail;go_ret;exact ⟨by rw [hR.out];rfl,hb⟩
end Dl
end
section
open Go.RowKit
namespace Dl
open Mem Pk
theorem subs_length (l:List Int):∀ last,(subs last l).length = l.length:=by
 induction l with
 | nil => intro _;rfl
 | cons n l ih => intro last;rw [subs,List.length_cons,List.length_cons,ih]
theorem subs_bound (l:List Int):∀ last,∀ n ∈ subs last l,I64 n:=by
 induction l with
 | nil => intro _ n h;simp [subs] at h
 | cons x l ih =>
  intro last n h;rw [subs,List.mem_cons] at h
  rcases h with rfl | h
  ·exact i64_wrap _
  ·exact ih _ _ h
theorem enc_len (d:List Int):(enc d).length ≤ 10 * d.length:=by
 induction d with
 | nil => simp [enc]
 | cons n l ih =>
  have h1:enc (n :: l) = putL (zigN n) ++ enc l:=by unfold enc;simp
  rw [h1,List.length_append,List.length_cons];have:=putL_length (zigN n);omega
theorem enc_snoc (d:List Int) (n:Int):enc (d ++ [n]) = enc d ++ putL (zigN n):=by unfold enc;rw [List.flatMap_append];simp
theorem take_next (zs:List Int) (k:Nat) (h:k < zs.length):zs.take (k + 1) = zs.take k ++ [zs[k]?.getD 0]:=by
 rw [List.take_succ_eq_append_getElem h,List.getElem?_eq_getElem h]
 rfl
end Dl
end
section
open Go.RowKit Go.Shelf
attribute [local go_sem] Oper.semAt_some
namespace Dl
open Mem Pk
theorem subs_get (l:List Int):∀ (a:Int) (k:Nat),k < l.length → (subs a l)[k]?.getD 0 = wrap64 (l[k]?.getD 0 - (if k = 0 then a else l[k - 1]?.getD 0)):=by
 induction l with
 | nil => intro a k h;simp at h
 | cons n l ih =>
  intro a k h
  cases k with
  | zero => rfl
  | succ k =>
   have e1:(subs a (n :: l))[k + 1]?.getD 0 = (subs n l)[k]?.getD 0:=rfl;have e2:(n :: l)[k + 1]?.getD 0 = l[k]?.getD 0:=rfl;rw [e1,e2,ih n k (by simpa using h)]
   cases k with
   | zero => simp
   | succ j => simp
theorem kept_cell {T:Nat → Prop} {w w':World} {p:Addr} {v:Value} (h:Kept T w w') (hb:p.block < w.heap.size) (hT:¬ T p.block) (hc:w.cell? p = some v):w'.cell? p = some v:=
 (World.cell?_of_block (w:=w) (h.block p.block hb hT)).trans hc
def Row (T:Nat → Prop) (w:World) (v:Value) (q:List Int):Prop:=
 ∃ (a:Option Addr) (cap:Nat),v = .slice a q.length cap ∧ (0 < q.length → ∃ b off,a = some ⟨b,off,none⟩ ∧ b < w.heap.size ∧ ¬ T b ∧ ∀ j,j < q.length → w.cell? ⟨b,off + j,none⟩ = some (.int .i64 (q[j]?.getD 0)))
theorem Row.kept {T:Nat → Prop} {w w':World} {v:Value} {q:List Int} (h:Row T w v q) (k:Kept T w w'):Row T w' v q:=by
 obtain ⟨a,cap,e,hc⟩:=h;refine ⟨a,cap,e,fun h0 => ?_⟩
 obtain ⟨b,off,e1,e2,e3,e4⟩:=hc h0;exact ⟨b,off,e1,Nat.lt_of_lt_of_le e2 k.size,e3,fun j hj => kept_cell k e2 e3 (e4 j hj)⟩
theorem row_of {T:Nat → Prop} {w w':World} {v:Value} {q:List Int} (h:Opened.Ints .i64 w v q) (hb:Below w.heap.size w w') (hT:∀ k,k < w.heap.size → ¬ T k):Row T w' v q:=by
 obtain ⟨a,cap,e,hc⟩:=row_cell h hb;refine ⟨a,cap,e,fun h0 => ?_⟩
 obtain ⟨b,off,e1,e2,e3⟩:=hc h0;exact ⟨b,off,e1,Nat.lt_of_lt_of_le e2 hb.size,hT b e2,e3⟩
theorem deltas1_in (F:Fence) (n:Nat) (hf:F.fn 176) (hro:F.round = none) (hn:1 ≤ n) (l Bs:Nat) (v:Value) (q:List Int) (T:Nat → Prop) (hq:q.length ≤ 1000) (J Jx:List Int → World → Prop)
  (hY:∀ pre x W,I64 x → J pre W → pre.length < q.length → YieldAt F (n - 1) Tryz.prog l #[.int .i64 x] W fun e W' =>
   (e = .returned (.bool true) ∧ J (pre ++ [x]) W' ∧ Kept T W W') ∨ (e = .returned (.bool false) ∧ Jx (pre ++ [x]) W'))
  (W:World) (hbox:W.heap[Bs]? = some (.cells #[v] 82 (0,0))) (hrow:Row T W v q) (h0:J [] W) :
  CallsIn F n Tryz.prog 176 #[.func (.yield l) #[] #[],.pointer (some ⟨Bs,0,none⟩)] W fun e W' => (∃ v,e = .returned v) ∧
   ((∃ ys,ys = subs 0 q ∧ J ys W') ∨ (∃ pre,(∃ k,k ≤ q.length ∧ pre = (subs 0 q).take k) ∧ Jx pre W')):=by
 have hb0:=cell_of_one hbox;obtain ⟨a,cap,rfl,hcells⟩:=hrow;have HC:=hid hcells;have hsl:=subs_length q 0;have HG:=hid (subs_get q 0);obtain ⟨ys,hys⟩:∃ ys,subs 0 q = ys:=⟨_,rfl⟩;rw [hys] at hsl HG;replace hys:=hid hys;clear hcells;refine callsIn_of_wp Tryz.func176 rfl hf ?_ hro
 simp only [Tryz.ntmps176,List.size_toArray,List.length_cons,List.length_nil,Nat.reduceAdd,Nat.reduceSub,Array.replicate_succ,Array.replicate_zero,List.push_toArray,List.append_toArray,List.nil_append,List.cons_append]
 gi_wp2
 gi_loopw [3,8] (fun x i wr => ∃ (k:Nat) (la:Int),k ≤ q.length ∧ x = .int .i64 la ∧ i = .int .i64 k ∧ Hid (la = if k = 0 then 0 else q[k - 1]?.getD 0) ∧ J (ys.take k) wr ∧ Kept T W wr)
  (fun _ i _ => q.length - (intOf i).toNat)
 case atStart => exact ⟨0,0,Nat.zero_le _,rfl,rfl,hid rfl,by rw [List.take_zero];exact h0,Kept.refl _ _⟩
 case round =>
  obtain ⟨k,la,hk,rfl,rfl,hla,hJs,hnx⟩:=hrel
  by_cases hlt:k < q.length
  ·obtain ⟨cb,off,rfl,hcb,hT,hcell⟩:=HC.out (by omega)
   have hcx:wr.cell? ⟨cb,off + k,none⟩ = some (.int .i64 (q[k]?.getD 0)):=kept_cell hnx hcb hT (hcell k hlt);have hg:=HG.out k hlt;rw [← hla.out] at hg;have htk:=hid (take_next ys k (by omega));obtain ⟨fn,tmps,assign,body,hy,hR⟩:=hY _ (ys[k]?.getD 0) wr (by rw [hg];exact i64_wrap _) hJs (by rw [List.length_take];omega);rw [hg] at hy
   have hlt':(k:Int) < q.length:=by omega
   replace hg:=hid hg;obtain ⟨c,hc⟩:∃ c,q[k]?.getD 0 = c:=⟨_,rfl⟩;rw [hc] at hcx hg hy;replace hc:=hid hc;clear hcell
   gi_wp2
   refine hR.mono ?_
   rintro e W3 (⟨rfl,hJ3,hk3⟩ | ⟨rfl,hJx3⟩)
   ·gi_wp2
    go_roundw
    case rel => exact ⟨k + 1,c,by omega,rfl,by go_num,hid (by rw [if_neg (by omega)];exact hc.out.symm),by rw [htk.out];exact hJ3,hnx.trans hk3⟩
    case measure => simp [intOf] <;> omega
   ·gi_wp2
    refine bodyPost_ret (results_none rfl _ _ _) rfl ?_
    exact ⟨⟨_,rfl⟩,.inr ⟨_,⟨k + 1,by omega,by rw [hys.out];exact htk.out.symm⟩,hJx3⟩⟩
  ·obtain rfl:k = q.length:=by omega
   have hge:decide (q.length < q.length) = false:=decide_eq_false hlt
   have hnl:¬ ((q.length:Int) < q.length):=by omega
   rw [List.take_of_length_le (by omega)] at hJs
   gi_wp2
   go_end0
   exact ⟨⟨_,rfl⟩,.inl (by rw [hys.out];exact hJs)⟩
abbrev Num64:={ x:Int // I64 x }
theorem deltas_stopsB (F:Fence) (n:Nat) (hf:F.fn 176) (hro:F.round = none) (hn:1 ≤ n) (Bs:Nat) (v:Value) (q:List Int) (T:Nat → Prop) (hq:q.length ≤ 1000) (w:World)
  (hbox:w.heap[Bs]? = some (.cells #[v] 82 (0,0))) (hrow:Row T w v q) :
  SeqStopsK F n Tryz.prog 176 #[.pointer (some ⟨Bs,0,none⟩)] (fun x:Num64 => #[Value.int .i64 x.1]) (Kept T) (fun ys => ys.map (fun x => x.1) = subs 0 q) (fun _ => True) q.length w:=
 fun l J Jx W hW _ _ hY h0 => (deltas1_in F n hf hro hn l Bs v q T hq (fun pre W => ∃ pre':List Num64,pre'.map (fun x => x.1) = pre ∧ J pre' W) (fun _ W => ∃ pre':List Num64,Jx pre' W) (fun pre x W hx hJ hlen => by
  obtain ⟨pre',rfl,hJ'⟩:=hJ;obtain ⟨fn,tmps,assign,body,hy,hR⟩:=hY pre' ⟨x,hx⟩ W hJ' (by simpa using hlen)
  exact ⟨fn,tmps,assign,body,hy,hR.mono (fun e W' h => by
   rcases h with ⟨rfl,h1,h2⟩ | ⟨rfl,h1⟩
   ·exact .inl ⟨rfl,⟨pre' ++ [⟨x,hx⟩],by simp,h1⟩,h2⟩
   ·exact .inr ⟨rfl,_,h1⟩)⟩) W (below_at hW hbox (lt_of_block hbox)) (hrow.kept (Kept.of_below hW)) ⟨[],rfl,h0⟩).mono (fun e W' h => ⟨h.1,by
    rcases h.2 with ⟨ys,rfl,pre',e1,h⟩ | ⟨pre,_,pre',h⟩
    ·exact .inl ⟨pre',e1,h⟩
    ·exact .inr ⟨pre',trivial,h⟩⟩)
theorem deltas_any (a:Option Addr) (len cap:Nat) (w:World) :
  Calls Tryz.prog 131 #[.slice a len cap] w fun e w' => e = .returned (.func (.func 176) #[] #[.pointer (some ⟨w.heap.size,0,none⟩)]) ∧ w' = w.alloc (.cells #[.slice a len cap] 82):=by
 have hmf:∀ (fn:Fn) (first cap:Array Value) (w:World),(Instr.makeFunc fn first cap).run Tryz.prog w = .ok (.func fn first cap) w:=fun _ _ _ _ => rfl
 go_enter Tryz.func131,Tryz.ntmps131;go_wp2_with fail;go_ret;exact ⟨rfl,rfl⟩
end Dl
end
section
open Go.RowKit Go.Shelf
attribute [local go_sem] Oper.semAt_some
namespace Dl
open Mem Pk
theorem kept_put {T:Nat → Prop} {W:World} {l:Nat} {o o':Obj} (hT:T l) (_h:W.heap[l]? = some o):Kept T W (W.putObj l o'):=
 (Kept.refl T W).grown (grownBy_putObj' W l o') (fun k e _ => by cases e;exact hT)
theorem own_cells {w:World} {base:Nat} {e:TypeId} {v:Value} {n:Nat} {xs:List Value} (h:w.ownsRow base e 1 v n xs):∀ (j:Nat) (o:Obj),v.ownBlock = some j → w.heap[j]? = some o → o.isCells = true:=by
 intro j o hj ho
 rcases h.2 with ⟨rfl,_⟩ | ⟨g,cap,cur,rfl,_,hh,_⟩
 ·cases hj
 ·have e:g = j:=by simpa [Value.ownBlock] using hj
  subst e;rw [hh] at ho
  cases ho
  rfl
theorem own_setCell {w:World} {base:Nat} {e:TypeId} {v:Value} {n:Nat} {xs:List Value} (h:w.ownsRow base e 1 v n xs) {p:Addr} (hp:p.block < base) (u:Value):(w.setCell p u).ownsRow base e 1 v n xs:=by
 refine ⟨h.1,?_⟩
 rcases h.2 with h2 | ⟨g,cap,cur,ev,hg,hh,r⟩
 ·exact .inl h2
 ·exact .inr ⟨g,cap,cur,ev,hg,set_other hh (by omega) _,r⟩
theorem own_slice {w:World} {base:Nat} {e:TypeId} {v:Value} {n:Nat} {xs:List Value} (h:w.ownsRow base e 1 v n xs):∃ b cap,v = .slice b n cap:=by
 rcases h.2 with ⟨rfl,rfl⟩ | ⟨g,cap,cur,rfl,_⟩
 ·exact ⟨none,0,rfl⟩
 ·exact ⟨_,cap,rfl⟩
end Dl
end
section
open Go.RowKit
namespace Dl
open Mem Pk
theorem own8_kept {T:Nat → Prop} {w w':World} {B:Nat} {v:Value} {n:Nat} {xs:List Value} (k:Kept T w w') (h:w.ownsRow B 5 1 v n xs) (hT:∀ k,B ≤ k → ¬ T k):w'.ownsRow B 5 1 v n xs:=by
 refine ⟨h.1,?_⟩
 rcases h.2 with h2 | ⟨g,cap,cur,ev,hg,hh,r⟩
 ·exact .inl h2
 ·exact .inr ⟨g,cap,cur,ev,hg,k.at hh (hT g hg),r⟩
theorem infoB:(Tryz.prog.info? 143).map (·.size) = some 2:=by kernel_rfl
theorem liesB:liesAt Tryz.prog Tryz.prog.depth 143 (2 / Tryz.prog.cellsOf 143) 0 143 1 = true:=by kernel_rfl
def bd (p v:Value):Obj:=.cells #[p,v] 143
theorem check_used (b:Nat) (v:Value) (w:World) (hb:w.heap[b]? = some (bd (.pointer (some ⟨b,0,none⟩)) v)) :
  Calls Tryz.prog 126 #[.pointer (some ⟨b,0,none⟩)] w fun e w' => e = .returned (.tuple #[]) ∧ w' = w:=by
 have h0:w.cell? ⟨b,0,none⟩ = some (.pointer (some ⟨b,0,none⟩)):=(cell_at hb 0).trans rfl
 have hne:=fun (w:World) => Lib.run_neq_ptr_same (P:=Tryz.prog) w (tp:=141) (te:=143) ⟨b,0,none⟩ Tryz.underlying141 (Option.map_eq_some_iff.1 infoB).choose_spec.1
 go_enter Tryz.func126,Tryz.ntmps126;go_wp2_with fail
 go_end0
 exact ⟨rfl,rfl⟩
theorem check_fresh (b:Nat) (v:Value) (w:World) (hb:w.heap[b]? = some (bd (.pointer none) v)) :
  Calls Tryz.prog 126 #[.pointer (some ⟨b,0,none⟩)] w fun e w' => e = .returned (.tuple #[]) ∧ w' = w.setCell ⟨b,0,none⟩ (.pointer (some ⟨b,0,none⟩)):=by
 have h0:w.cell? ⟨b,0,none⟩ = some (.pointer none):=(cell_at hb 0).trans rfl;have hf:w.frozen? ⟨b,0,none⟩ = false:=free_at hb 0
 have hsh:w.shape? b = some (143,2):=by simp [World.shape?,hb,bd]
 obtain ⟨j,hj,hjs⟩:=Option.map_eq_some_iff.1 infoB;have r1:=Lib.run_to_unsafe (P:=Tryz.prog) w ⟨b,0,none⟩ Tryz.underlying141 Tryz.underlying256 hj (by rw [hjs];decide) hsh (Nat.zero_lt_succ 1);have r2:=run_callFunc_extern (P:=Tryz.prog) Tryz.func173 (by kernel_rfl) (by kernel_rfl) (by kernel_rfl) (e:=Extern.AbiNoEscape.same) (by kernel_rfl);have r3:=Lib.run_from_unsafe (P:=Tryz.prog) w ⟨b,0,none⟩ Tryz.underlying256 Tryz.underlying141 hj hsh liesB;go_enter Tryz.func126,Tryz.ntmps126;go_wp2;rw [Lib.run_noEscape];simp only [Result.andThen];rw [Oper.upon_value];go_wp2
 go_end0
 exact ⟨rfl,rfl⟩
theorem check_any (b:Nat) (p v:Value) (hp:p = .pointer none ∨ p = .pointer (some ⟨b,0,none⟩)) (w:World) (hb:w.heap[b]? = some (bd p v)) :
  Calls Tryz.prog 126 #[.pointer (some ⟨b,0,none⟩)] w fun e w' => e = .returned (.tuple #[]) ∧ w'.heap[b]? = some (bd (.pointer (some ⟨b,0,none⟩)) v) ∧ Kept (· = b) w w' ∧ KeepsOthers w w':=by
 rcases hp with rfl | rfl
 ·refine (check_fresh b v w hb).mono ?_
  rintro e w' ⟨rfl,rfl⟩;exact ⟨rfl,(set_at hb 0 _).trans rfl,(Kept.refl (· = b) w).setCell (p:=⟨b,0,none⟩) (fun _ => rfl) _,KeepsOthers.setCell _ _ _⟩
 ·refine (check_used b v w hb).mono ?_
  rintro e w' ⟨rfl,rfl⟩;exact ⟨rfl,hb,Kept.refl _ _,KeepsOthers.refl _⟩
theorem wstr_any (b B:Nat) (p v:Value) (hp:p = .pointer none ∨ p = .pointer (some ⟨b,0,none⟩)) (l:List UInt8) (s:ByteArray) (w:World) (hb:w.heap[b]? = some (bd p v)) (hO:Own8 w B v l) (hbB:b < B) (hBw:B ≤ w.heap.size) (hl:l.length ≤ 100000) (hs:s.size ≤ 100000) :
  Calls Tryz.prog 81 #[.pointer (some ⟨b,0,none⟩),.string s] w fun e w' => e = .returned (.tuple #[.int .i64 s.size,.nilIface]) ∧ (∃ v',w'.heap[b]? = some (bd (.pointer (some ⟨b,0,none⟩)) v') ∧ Own8 w' B v' (l ++ s.data.toList)) ∧ Kept (fun k => k = b ∨ B ≤ k) w w' ∧ KeepsOthers w w':=by
 obtain ⟨i0,hi,hz0,hz1,hz2⟩:=info_parts info8;have HC:=hid (check_any b p v hp w hb);have HB:=hid hb;clear hb hp;go_enter Tryz.func81,Tryz.ntmps81;go_wp2_with fail;refine HC.out.mono ?_
 rintro e w1 ⟨rfl,hb1,k1,o1⟩;have hO1:w1.ownsRow B 5 1 v l.length (cells8 l):=own8_kept k1 hO (fun k hk h => by subst h;omega);have c0:w1.cell? ⟨b,0,none⟩ = some (.pointer (some ⟨b,0,none⟩)):=(cell_at hb1 0).trans rfl;have c1:w1.cell? ⟨b,1,none⟩ = some v:=(cell_at hb1 1).trans rfl;have hs1:=k1.size
 go_wp2_with (at_builtin;refine Lib.wpList_append_own_string _ rfl _ _ 76 9 rfl B 5 i0 Tryz.underlying76 Tryz.underlying9 hi hz0 hz1 hz2 _ _ _ rfl hO1 s rfl (by unfold maxLen;omega) (by omega) (by omega) ?_;intro v2 w2 hown hgrow _;obtain ⟨bx,cx,rfl⟩:=own_slice hown;have hb2:w2.heap[b]? = some (bd (.pointer (some ⟨b,0,none⟩)) v):=(hgrow.block b (lt_of_block hb1) (fun e => by have:=(hO1.lt _ e.symm).1;omega)).trans hb1;have d0:w2.cell? ⟨b,0,none⟩ = some (.pointer (some ⟨b,0,none⟩)):=(cell_at hb2 0).trans rfl;have d1:w2.cell? ⟨b,1,none⟩ = some v:=(cell_at hb2 1).trans rfl;have f1:w2.frozen? ⟨b,1,none⟩ = false:=free_at hb2 1)
 go_ret2;have hKa:Kept (fun k => k = b ∨ B ≤ k) w w1:=k1.mono (fun i hi h => .inl h);refine ⟨rfl,⟨_,(set_at hb2 1 _).trans rfl,?_⟩,(hKa.grown hgrow (fun k er _ => .inr (hO1.lt k er).1)).setCell (p:=⟨b,1,none⟩) (fun _ => .inl rfl) _,o1.trans ((KeepsOthers.of_grownBy hgrow (fun j o e h => own_cells hO1 j o e h)).trans (KeepsOthers.setCell _ _ _))⟩
 unfold Own8;rw [cells8_append,List.length_append,size_list];exact own_setCell hown hbB _
end Dl
end
section
open Go.RowKit Go.Shelf
attribute [local go_sem] Oper.semAt_some
namespace Dl
open Mem Pk
theorem others_of_below {W W':World} (h:Below W.heap.size W W'):KeepsOthers W W':=⟨h.size,fun k _ hk _ => (h.block k (lt_of_block hk)).trans hk⟩
theorem own8_less {w:World} {B C:Nat} {v:Value} {l:List UInt8} (h:Own8 w B v l) (hC:C ≤ B):Own8 w C v l:=by
 refine ⟨h.1,?_⟩
 rcases h.2 with h2 | ⟨g,cap,cur,ev,hg,hh,r⟩
 ·exact .inl h2
 ·exact .inr ⟨g,cap,cur,ev,Nat.le_trans hC hg,hh,r⟩
theorem builder_of {w:World} {b B:Nat} {p v:Value} {l:List UInt8} (hp:p = .pointer none ∨ p = .pointer (some ⟨b,0,none⟩)) (hb:w.heap[b]? = some (bd p v)) (hO:Own8 w B v l) (hbB:b < B):Lib.IsBuilder 143 5 b b (Lib.byteCells l) w:=by
 have hO2:w.ownsRow b 5 1 v (Lib.byteCells l).length (Lib.byteCells l):=by
  have h1:=own8_less hO (Nat.le_of_lt hbB)
  have e:(Lib.byteCells l).length = l.length:=by unfold Lib.byteCells;simp
  rw [e];exact h1
 have hne:v.ownBlock ≠ some b:=by
  rcases hO.2 with ⟨rfl,_⟩ | ⟨g,cap,cur,rfl,hg,_⟩
  ·simp [Value.ownBlock]
  ·simp [Value.ownBlock];omega
 rcases hp with rfl | rfl
 ·exact .inl ⟨Nat.le_refl _,v,hb,hO2,hne⟩
 ·exact .inr ⟨Nat.le_refl _,v,hb,hO2,hne⟩
def bare (pre:List Num64):List Int:=pre.map (fun x => x.1)
theorem bare_snoc (pre:List Num64) (x:Num64):bare (pre ++ [x]) = bare pre ++ [x.1]:=by unfold bare;simp
theorem bare_length (pre:List Num64):(bare pre).length = pre.length:=by unfold bare;simp
def EncI (w:World) (B:Nat) (pre:List Num64) (W:World):Prop:=
 ∃ p v,(p = .pointer none ∨ p = .pointer (some ⟨w.heap.size,0,none⟩)) ∧ W.heap[w.heap.size]? = some (bd p v) ∧ Own8 W B v (enc (bare pre)) ∧ Below w.heap.size w W ∧ B ≤ W.heap.size
theorem encI_own {w:World} {B C:Nat} (hB:w.heap.size ≤ C):OwnFrom C (EncI w B):=fun pre A D row hs hg hr => by
 obtain ⟨p,v,hp,h1,h2,h3,h4⟩:=hs
 have key:∀ (k:Nat) (cs:Array Value) (t:TypeId) (f:Nat × Nat),A.heap[k]? = some (.cells cs t f) → D.heap[k]? = some (.cells cs t f):=fun k cs t f hk =>
  (hg.block k (lt_of_block hk) (fun er => by
   obtain ⟨_,o,ho,hc⟩:=hr k er.symm;rw [hk] at ho
   cases ho
   cases hc)).trans hk
 refine ⟨p,v,hp,key _ _ _ _ h1,⟨h2.1,?_⟩,⟨hg.os.trans h3.os,hg.tape.trans h3.tape,hg.output.trans h3.output,Nat.le_trans h3.size hg.size,fun k hk => (hg.block k (Nat.lt_of_lt_of_le hk h3.size) (fun er => ?_)).trans (h3.block k hk)⟩,Nat.le_trans h4 hg.size⟩
 ·rcases h2.2 with h | ⟨g,cap,cur,ev,hg0,hh,r⟩
  ·exact .inl h
  ·exact .inr ⟨g,cap,cur,ev,hg0,key _ _ _ _ hh,r⟩
 ·have:=(hr k er.symm).1
  omega
theorem encode_in (v:Value) (d:List Int) (w:World) (hv:Opened.Ints .i64 w v d) (hl:d.length ≤ 1000) :
  CallsIn Fence.wide 3 Tryz.prog 95 #[v] w fun e w' => e = .returned (.string (str (enc (subs 0 d)))) ∧ Below w.heap.size w w':=by
 have HV:=hid hv;obtain ⟨⟨a,cap,rfl,-⟩,-⟩:=hv;refine callsIn_of_wp_marks Tryz.func95 rfl trivial ?_ rfl
 simp only [Tryz.ntmps95,List.size_toArray,List.length_cons,List.length_nil,Nat.reduceAdd,Nat.reduceSub,Array.replicate_succ,Array.replicate_zero,List.push_toArray,List.append_toArray,List.nil_append,List.cons_append]
 gi_wp2_with fail
 refine ⟨trivial,?_⟩
 refine CallsIn.mono (callsIn_wide.2 (deltas_any _ _ _ _)) ?_
 rintro e' w' ⟨rfl,rfl⟩
 gi_wp2_with fail
 obtain ⟨W2,hW⟩:∃ W2,(w.alloc (bd (.pointer none) (.slice none 0 0))).alloc (.cells #[.slice a d.length cap] 82) = W2:=⟨_,rfl⟩
 have hz2:W2.heap.size = w.heap.size + 2:=by rw [← hW];simp
 have hbox:W2.heap[w.heap.size + 1]? = some (.cells #[.slice a d.length cap] 82 (0,0)):=by
  rw [← hW];have:=alloc_new (w.alloc (bd (.pointer none) (.slice none 0 0))) (.cells #[.slice a d.length cap] 82);rw [World.size_alloc] at this;exact this
 have hbel0:Below w.heap.size w W2:=by rw [← hW];exact ((Below.refl _ w).alloc (Nat.le_refl _) _).alloc (by simp) _
 have hrow:Row (fun k => k = w.heap.size ∨ w.heap.size + 2 ≤ k) W2 (.slice a d.length cap) d:=row_of HV.out hbel0 (fun k hk h => by omega);have hI0:EncI w W2.heap.size [] W2:=⟨.pointer none,.slice none 0 0,.inl rfl,by rw [← hW];exact alloc_at _ (alloc_new w _),own8_nil _ _,hbel0,Nat.le_refl _⟩
 change Code.wpIn _ _ _ _ _ _ ((w.alloc (bd (.pointer none) (.slice none 0 0))).alloc (.cells #[.slice a d.length cap] 82))
 rw [hW];clear hW;refine wpIn_rangeFunc_ownF rfl (by decide) (gf:=176) (lb:=#[.pointer (some ⟨w.heap.size + 1,0,none⟩)]) rfl trivial (enters_of Tryz.func176 (by kernel_rfl) rfl)
  (deltas_stopsB Fence.wide 2 trivial rfl (by decide) (w.heap.size + 1) _ d (fun k => k = w.heap.size ∨ w.heap.size + 2 ≤ k) hl W2 hbox hrow)
  (fun h k => h.trans k) (fun W l o o' hl h _ _ => kept_put (by rw [hz2] at hl;exact .inr hl) h) (Below.refl _ _) (fun _ => rfl)
  (EncI w W2.heap.size) (fun _ _ _ => False) (encI_own (by omega)) (fun _ _ _ _ _ hs _ _ => hs) hI0
  (fun x => { tmps:=#[.slice a d.length cap,undef,.string ⟨#[]⟩,.pointer (some ⟨w.heap.size,0,none⟩),.int .i64 x.1,.slice a d.length cap,.func (.func 176) #[] #[.pointer (some ⟨w.heap.size + 1,0,none⟩)],.int .i64 x.1,undef,undef,undef,undef,undef],defers:=[] }) ?assign ?body ?done ?stop
 case assign =>
  intro l x W K hK
  gi_wp2
  exact hK
 case body =>
  rintro l pre ⟨x,hx⟩ W ⟨p,v',hp,hq,hO,hbel,hBW⟩ hlen
  have hel:(enc (bare pre)).length ≤ 10000:=by have:=enc_len (bare pre);rw [bare_length] at this;omega
  have hZ:=hid (zig_lt hx.1 hx.2);have hpl:=putL_length (zigN x);have hO1:=hid hO;clear hO
  gi_wp2_with fail
  refine ⟨trivial,?_⟩
  refine CallsIn.mono (CallsIn.inRound l (callsIn_wide.2 (zig_any x _ hx.1 hx.2))) ?_
  rintro e' w1 ⟨rfl,rfl⟩;have HP:=hid (fun W => put_any (zigN x) W hZ.out)
  gi_wp2_with fail
  refine ⟨trivial,?_⟩
  refine CallsIn.mono (CallsIn.inRound l (callsIn_wide.2 (HP.out _))) ?_
  rintro e' w1 ⟨rfl,hb1⟩;have hq1:=below_at hb1 hq (lt_of_block hq);have hO2:Own8 w1 W2.heap.size v' (enc (bare pre)):=own8_kept (Kept.of_below (T:=fun _ => False) hb1) hO1.out (fun _ _ h => h);have hs1:=hb1.size;have HW:=hid (wstr_any w.heap.size W2.heap.size p v' hp (enc (bare pre)) (str (putL (zigN x))) w1 hq1 hO2 (by omega) (by omega) (by omega) (by rw [str_size];omega))
  gi_wp2_with fail
  refine ⟨trivial,?_⟩
  refine CallsIn.mono (CallsIn.inRound l (callsIn_wide.2 HW.out)) ?_
  rintro e' w3 ⟨rfl,⟨v3,hq3,hO3⟩,k3,o3⟩;have hsz:=hbel.size;have k1:Kept (fun k => k = w.heap.size ∨ w.heap.size + 2 ≤ k) W w1:=Kept.of_below hb1;have kf:=k1.trans (k3.mono (T':=fun k => k = w.heap.size ∨ w.heap.size + 2 ≤ k) (fun i hi h => by rcases h with h | h <;> omega));have hs3:=kf.size;rw [str_data] at hO3
  gi_wp2_with fail
  exact ⟨(others_of_below hb1).trans o3,kf,_,v3,.inr rfl,hq3,by rw [bare_snoc,enc_snoc];exact hO3,hbel.trans (kf.to_below hsz (fun k hk h => by rcases h with h | h <;> omega)),by omega⟩
 case done =>
  rintro D ys W hD hS hI hDD;obtain ⟨p,v',hp,hq,hO,hbel,hBW⟩:=hI;have hS':bare ys = subs 0 d:=hS;rw [hS'] at hO;have hsz:=hbel.size;have HS:=hid (Tryz.Builder_String_any_k w.heap.size w.heap.size _ _ (Lib.IsBuilderF.of (builder_of hp hq hO (by omega))) hsz);replace hbel:=hid hbel;clear hq hO hI0 hrow hbox hbel0 hS hS'
  gi_wp2_with fail
  refine ⟨trivial,?_⟩
  refine CallsIn.mono (callsIn_wide.2 HS.out) ?_
  rintro e' w4 ⟨rfl,-,hb4,ho4⟩;have hD4:w4.heap[D]? = some (.deferred (some [])):=ho4 D _ hDD (by intro h;cases h;omega) (by intro c fz h;cases h)
  have hbF:Below w.heap.size w (w4.putObj D (.deferred none)):=by
   have h1:=hbel.out.trans hb4;have hg:=grownBy_putObj' w4 D (.deferred none);exact ⟨hg.os.trans h1.os,hg.tape.trans h1.tape,hg.output.trans h1.output,Nat.le_trans h1.size hg.size,fun k hk => (hg.block k (Nat.lt_of_lt_of_le hk h1.size) (fun e => by cases e;omega)).trans (h1.block k hk)⟩
  replace hbF:=hid hbF
  gi_wp2_with fail
  refine ⟨by simp,.inl ⟨_,_,rfl,run_takeDeferred hD4,?_⟩⟩
  refine ⟨_,results_tmp rfl _ _ _,?_,hbF.out⟩
  rfl
 case stop =>
  rintro D c pre W _ _ h _;exact h.elim
theorem encode_any (v:Value) (d:List Int) (w:World) (hv:Opened.Ints .i64 w v d) (hl:d.length ≤ 1000) :
  Calls Tryz.prog 95 #[v] w fun e w' => e = .returned (.string (str (enc (subs 0 d)))) ∧ Below w.heap.size w w':=
 callsIn_wide.1 (encode_in v d w hv hl)
end Dl
end
end Go.Proofs.YtnlijlknjhkoaaaGreat
