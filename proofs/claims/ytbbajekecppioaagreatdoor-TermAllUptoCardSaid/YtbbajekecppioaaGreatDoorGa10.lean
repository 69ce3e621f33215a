/- The pool's node walked. -/
import Derived.Test.YtbbajekecppioaaGreatDoorGa09
set_option linter.unusedSimpArgs false
set_option linter.unusedVariables false
namespace Go.Proofs.YtbbajekecppioaaGreatDoor
open Go.RowKit Go.Mem Go.Wd Go.Tp
namespace TmW
theorem grown_of {w w0 w' : World} {r : Option Nat} (h : w.grownBy w' r) (e1 : w0.heap = w.heap) (e2 : w0.os = w.os) (e3 : w0.tape = w.tape) (e4 : w0.output = w.output) : w0.grownBy w' r :=
 ⟨h.os.trans e2.symm, h.tape.trans e3.symm, h.output.trans e4.symm, by rw [e1]; exact h.size, fun k hk hn => by rw [e1] at hk ⊢; exact h.block k hk hn⟩
theorem push_post {w w5 w6 w8 : World} {own : Nat → Prop} {p : Nat} {s : TPool} {lv : Value} {bf bt : Nat} {kvs : List Value} (H : PParts w own p s lv bf bt kvs) (n : TNode) (kv : Value) (hkv : Row w 3 (Value.int .i64) kv n.kids) (hko : ∀ g, kv.ownBlock = some g → own g)
  (hF5 : Frm (fun _ => False) w w5) {g' cap' : Nat} {m : List (ByteArray × Int)} (h6 : w6.ownsRow 0 76 6 (.slice (some ⟨g', 0, none⟩) (s.l.length + 1) cap') (s.l.length + 1) (ncells s.l kvs ++ ncell n kv)) (hg6 : w5.grownBy w6 lv.ownBlock) (hgg : lv.ownBlock = some g' ∨ g' = w5.heap.size) (hlt6 : g' < w6.heap.size)
  (h8 : MapAt w8 bf Value.string (Value.int .i64) m) (hg8 : (w6.setCell ⟨p, 0, none⟩ (.slice (some ⟨g', 0, none⟩) (s.l.length + 1) cap')).grownBy w8 (some bf)) (r : Value) :
  TPost own w p r { s with l := s.l ++ [n], find := m } (.returned r) w8 := by
 obtain ⟨a1, a2, a3, a4⟩ := H.apart
 have hp := H.lt p H.me
 have hbf := H.lt bf H.ownf
 have hg'p : g' ≠ p := fun e => by
  rcases hgg with h | h
  ·exact (a3 g' h).1 e
  ·have := hF5.size; omega
 have hg'b : g' ≠ bf := fun e => by
  rcases hgg with h | h
  ·exact (a3 g' h).2.1 e
  ·have := hF5.size; omega
 have hF6 : Frm (fun b => lv.ownBlock = some b) w w6 := (hF5.mono fun _ _ h => h.elim).grown hg6 fun k hk => .inl hk
 have hF7 : Frm (fun b => lv.ownBlock = some b ∨ b = p) w (w6.setCell ⟨p, 0, none⟩ (.slice (some ⟨g', 0, none⟩) (s.l.length + 1) cap')) := (hF6.mono fun _ _ h => .inl h).set (p := ⟨p, 0, none⟩) (.inl (.inr rfl)) _
 have hF8 : Frm (fun b => lv.ownBlock = some b ∨ b = p ∨ b = bf) w w8 := (hF7.mono fun _ _ h => by rcases h with h | h <;> simp [h]).grown hg8 fun k hk => .inl (by cases hk; simp)
 have hpb : (w6.setCell ⟨p, 0, none⟩ (.slice (some ⟨g', 0, none⟩) (s.l.length + 1) cap')).heap[p]? = some (.cells #[(.slice (some ⟨g', 0, none⟩) (s.l.length + 1) cap'), .map (some bf), .map (some bt)] 58 (0, 0)) :=
  blk_set (blk_frm H.blk hF6 (fun e => (a3 p e).1 rfl)) 0 _ rfl
 refine ⟨rfl, fun b => own b ∨ b = g', ⟨(.slice (some ⟨g', 0, none⟩) (s.l.length + 1) cap'), bf, bt, kvs ++ [kv], blk_grown hpb hg8 (fun e => a1 (by cases e; rfl)), ?_, by simp [H.kvl], fun i m hm => ?_, fun x hx => by cases hx; exact .inr rfl, H.ne, .inl H.ownf, .inl H.ownt, h8, H.types.frm hF8 fun e => ?_, .inl H.me, fun b hb => ?_, fun b hb => ?_⟩, ⟨hF8.mono fun x _ hx => ?_, fun b hb => ?_, fun b cs hb => ?_⟩⟩
 ·have h7 := own_set_ne h6 (p := ⟨p, 0, none⟩) (fun e => hg'p (by cases e; rfl)) (.slice (some ⟨g', 0, none⟩) (s.l.length + 1) cap')
  have h8' := World.ownsRow.kept h7 hg8 (.inr fun e => hg'b (by cases e; rfl))
  rw [ncells_snoc _ _ _ _ H.kvl]
  simpa using h8'
 ·have hrowf : ∀ (v : Value) (l : List Int), Row w 3 (Value.int .i64) v l → Row w8 3 (Value.int .i64) v l := fun v l hv => hv.frm hF8 fun g hg e => by
   obtain ⟨b1, b2, b3, b4⟩ := a4 v l g hv hg
   rcases e with e | e | e
   ·exact b4 e
   ·exact b1 e
   ·exact b2 e
  by_cases hi : i < s.l.length
  ·have hm' : s.l[i]? = some m := by
    have : (s.l ++ [n])[i]? = some m := hm
    rwa [List.getElem?_append_left hi] at this
   obtain ⟨kv', k1, k2, k3⟩ := H.kids i m hm'
   exact ⟨kv', by rw [List.getElem?_append_left (by rw [H.kvl]; exact hi)]; exact k1, hrowf _ _ k2, fun g hg => .inl (k3 g hg)⟩
  ·have hm2 : (s.l ++ [n])[i]? = some m := hm
   rw [List.getElem?_append_right (by omega)] at hm2
   have hi0 : i - s.l.length = 0 := by
    have := (List.getElem?_eq_some_iff.1 hm2).1
    simp at this; omega
   rw [hi0] at hm2
   simp only [List.getElem?_cons_zero, Option.some.injEq] at hm2
   subst hm2
   exact ⟨kv, by rw [List.getElem?_append_right (by rw [H.kvl]; omega), H.kvl, hi0]; rfl, hrowf _ _ hkv, fun g hg => .inl (hko g hg)⟩
 ·rcases e with e | e | e
  ·exact (a3 bt e).2.2 rfl
  ·exact a2 e
  ·exact H.ne e.symm
 ·have hs := hF8.size
  rcases hb with hb | rfl
  ·have := H.lt b hb; omega
  ·have := hg8.size; simp at this; omega
 ·rcases hb with hb | rfl
  ·exact H.lo b hb
  ·rcases hgg with h | h
   ·exact H.lo _ (H.rowOwn _ h)
   ·have := H.lo p H.me; have := hF5.size; omega
 ·rcases hx with h | rfl | rfl
  ·exact H.rowOwn _ h
  ·exact H.me
  ·exact H.ownf
 ·rcases hb with hb | rfl
  ·exact .inl hb
  ·rcases hgg with h | h
   ·exact .inl (H.rowOwn _ h)
   ·exact .inr (by have := hF5.size; omega)
 ·refine blk_frm hb hF8 fun e => ?_
  rcases e with e | e | e
  ·obtain ⟨cur, hc⟩ := own_elem H.row e
   rw [hb] at hc; simp at hc
  ·subst e
   have := H.blk
   rw [hb] at this; simp at this
  ·subst e
   obtain ⟨es, c, hm, _⟩ := H.find
   rw [hb] at hm; cases hm
set_option maxRecDepth 100000 in
set_option maxHeartbeats 2000000 in
theorem node_calls {w : World} {own : Nat → Prop} {p : Nat} {s : TPool} (hE : Env w) (h : PoolAt w own p s) (n : TNode) (kv : Value) (hop : n.op.size ≤ 140737488355328) (hn : n.num < 2 ^ 64) (hv : is64 n.v) (hk : ∀ k ∈ n.kids, is64 k) (hkl : n.kids.length ≤ 1000)
  (hkv : Row w 3 (Value.int .i64) kv n.kids) (hko : ∀ g, kv.ownBlock = some g → own g) (hroom : s.l.length < 4294967296) :
  Calls Tryz.prog 40 #[.pointer (some ⟨p, 0, none⟩), .agg #[.string n.op, .int .i64 n.t.1, .bool n.t.2, .int .u64 n.num, .int .i64 n.v, kv]] w (TPost own w p (.int .i64 (nodeF s n).1) (nodeF s n).2) := by
 obtain ⟨i0, hi, hz0, hz1, hz2⟩ := info_parts info_node
 obtain ⟨KA, KC, rfl, _⟩ := sees_slice hkv.sees
 have HKEY := Lib.hid (key_calls (w.alloc (.cells #[.string n.op, .int .i64 n.t.1, .bool n.t.2, .int .u64 n.num, .int .i64 n.v, .slice KA n.kids.length KC] 76)) n (.slice KA n.kids.length KC) (hE.frm0 (frm_alloc _ _)) hop hn hv hk hkl (hkv.frm0 (frm_alloc _ _)).sees)
 have hF := Lib.hid (frm_alloc w (.cells #[.string n.op, .int .i64 n.t.1, .bool n.t.2, .int .u64 n.num, .int .i64 n.v, .slice KA n.kids.length KC] 76))
 have HB0 := Lib.hid (NBox.new w n (.slice KA n.kids.length KC))
 obtain ⟨lv, bf, bt, kvs, H⟩ := h
 have HH := Lib.hid H
 have Hkv := Lib.hid hkv
 have Hko := Lib.hid hko
 clear hE hop hn hv hk hkl hkv hko
 cases hget : mget s.find (keyF n) with
 | some f =>
  have hs : Hid (nodeF s n = (f, s)) := Lib.hid (by unfold nodeF; rw [hget])
  have Hget := Lib.hid hget
  clear hget H
  go_enter Tryz.func40, Tryz.ntmps40
  go_wp2_with fail
  refine HKEY.out.mono ?_
  rintro e w1 ⟨rfl, hf1⟩
  have HF1 := Lib.hid (frm_then hF.out hf1)
  have H1 := Lib.hid (HH.out.frm HF1.out fun _ _ => id)
  obtain ⟨c0, c1, c2, fz⟩ := H1.out.cells
  have hlk := lookup_run keyStr Tryz.underlying54 zeroInt H1.out.find (keyF n) true
  simp only [if_true, mval, Hget.out, Option.map_some, Option.getD_some, Option.isSome_some] at hlk
  clear hf1
  go_wp2
  go_ret
  exact ⟨by rw [hs.out]; rfl, own, by rw [hs.out]; exact ⟨_, _, _, _, H1.out⟩, .of0 (HF1.out)⟩
 | none =>
  have hs : Hid (nodeF s n = ((s.l.length : Int), { s with l := s.l ++ [n], find := mput s.find (keyF n) (s.l.length : Int) })) := Lib.hid (by unfold nodeF; rw [hget])
  have Hget := Lib.hid hget
  clear hget H
  go_enter Tryz.func40, Tryz.ntmps40
  go_wp2_with fail
  refine HKEY.out.mono ?_
  rintro e w1 ⟨rfl, hf1⟩
  have HF1 := Lib.hid (frm_then hF.out hf1)
  have H1 := Lib.hid (HH.out.frm HF1.out fun _ _ => id)
  have HB1 := Lib.hid (HB0.out.frm0 hf1)
  obtain ⟨b0, b1, b2, b3, b4, b5⟩ := HB1.out.cells
  obtain ⟨c0, c1, c2, fz⟩ := H1.out.cells
  obtain ⟨A, cap, hlv, hR⟩ := H1.out.slice
  subst hlv
  have hlk := lookup_run keyStr Tryz.underlying54 zeroInt H1.out.find (keyF n) true
  simp only [if_true, mval, Hget.out, Option.map_none, Option.getD_none, Option.isSome_none] at hlk
  have hl0 := World.block_lt_of_cell? _ _ b0
  have hlp := World.block_lt_of_cell? _ _ c0
  clear hf1 hR
  go_wp2
  refine Plan.wp_region_plan [0, 0, 2, 6, 14, 0, 32, 126, 255, 511, 1023] [.mk [0, 1, 2, 3, 4, 5] 6 [0, 1, 2, 3, 4], .mk [] 7 [0], .mk [8, 9] 10 []] [] (by kernel_rfl) (by kernel_rfl) ?_
  simp only [Plan.wayOf, Plan.pickAll, List.getElem?_cons_zero, List.getElem?_cons_succ, List.getD_eq_getElem?_getD, Option.getD_some]
  refine Plan.wpWay_seg ?_
  repeat go_big_quiet_step (fail)
  refine wpQuiet_nil ?_; refine Plan.wpWay_act ?_
  go_wp2_with (fail)
  refine And.intro ?_ ?_; focus ((iterate 5 (refine Plan.again_cons ?_ ?_; focus (go_big_quiet_step (fail); exact wpQuiet_nil rfl))); exact Plan.again_nil)
  refine Plan.wpWay_seg ?_
  refine wpQuiet_nil ?_; refine Plan.wpWay_act ?_
  have hown := own_drew (own_frm H1.out.row (frm_alloc w1 (.cells #[.string n.op, .int .i64 n.t.1, .bool n.t.2, .int .u64 n.num, .int .i64 n.v, .slice KA n.kids.length KC] 76)) fun _ _ => id)
  refine wpList_append_lies _ rfl _ _ 56 rfl 0 76 i0 (.agg #[.string ⟨#[]⟩, .int .i64 0, .bool false, .int .u64 0, .int .i64 0, .slice none 0 0]) 6 72 Tryz.underlying56 hi hz0 hz1 hz2 rfl (by decide) (.slice A s.l.length cap) _ _ rfl hown ⟨w1.heap.size, 0, none⟩ 1 1 (ncell n (.slice KA n.kids.length KC)) rfl rfl ?c1 ?c2 (by decide) ?c3 ?c4 (Nat.zero_le _) _ rfl ?_
  case c1 => exact World.news_of_block (blk_new_at (.cells #[.string n.op, .int .i64 n.t.1, .bool n.t.2, .int .u64 n.num, .int .i64 n.v, .slice KA n.kids.length KC] 76) rfl)
  case c2 => simp [ncell, Value.oneCell']
  case c3 => have : maxLen = 9223372036854775807 := rfl; omega
  case c4 => omega
  intro g' cap' w6 h6 hg6 hgg hlt6
  have hgr : (w1.alloc (.cells #[.string n.op, .int .i64 n.t.1, .bool n.t.2, .int .u64 n.num, .int .i64 n.v, .slice KA n.kids.length KC] 76)).grownBy w6 (Value.slice A s.l.length cap).ownBlock := grown_of hg6 rfl rfl rfl rfl
  clear hg6
  have hb6 := blk_grown (blk_alloc H1.out.blk (.cells #[.string n.op, .int .i64 n.t.1, .bool n.t.2, .int .u64 n.num, .int .i64 n.v, .slice KA n.kids.length KC] 76)) hgr (fun e => (H1.out.apart.2.2.1 p e).1 rfl)
  have d2 : w6.cell? ⟨p, 0, none⟩ = some (.slice A s.l.length cap) := blk_cell hb6 0
  have dz : w6.frozen? ⟨p, 0, none⟩ = false := blk_free hb6 0
  go_simp
  go_wp2_with fail
  refine And.intro ?_ ?_; focus ((iterate 1 (refine Plan.again_cons ?_ ?_; focus (go_big_quiet_step (fail); exact wpQuiet_nil rfl))); exact Plan.again_nil)
  refine Plan.wpWay_seg ?_
  repeat go_big_quiet_step (fail)
  refine wpQuiet_nil ?_; refine Plan.wpWay_act ?_
  go_wp2_with (fail)
  refine And.intro Plan.again_nil ?_
  refine Plan.wpWay_last ?_
  refine wpQuiet_nil ?_; refine NoPanic.normal ?_
  have hbx6 := blk_grown (blk_alloc HB1.out (.cells #[.string n.op, .int .i64 n.t.1, .bool n.t.2, .int .u64 n.num, .int .i64 n.v, .slice KA n.kids.length KC] 76)) hgr (fun e => (by
   have h3 := HH.out.lt _ (HH.out.rowOwn _ e)
   omega))
  have hF6 : Frm (fun b => (Value.slice A s.l.length cap).ownBlock = some b) w1 w6 := (frm_alloc w1 (.cells #[.string n.op, .int .i64 n.t.1, .bool n.t.2, .int .u64 n.num, .int .i64 n.v, .slice KA n.kids.length KC] 76)).mono (fun _ _ h => h.elim) |>.grown hgr fun k hk => .inl hk
  have hF7 : Frm (fun b => (Value.slice A s.l.length cap).ownBlock = some b ∨ b = p) w1 (w6.setCell ⟨p, 0, none⟩ (.slice (some ⟨g', 0, none⟩) (s.l.length + 1) cap')) := (hF6.mono fun _ _ h => .inl h).set (p := ⟨p, 0, none⟩) (.inl (.inr rfl)) _
  have hm7 := H1.out.find.frm hF7 (fun e => by
   rcases e with e | e
   ·exact (H1.out.apart.2.2.1 bf e).2.1 rfl
   ·exact H1.out.apart.1 e)
  have hb7 := blk_set hb6 0 (.slice (some ⟨g', 0, none⟩) (s.l.length + 1) cap') rfl
  have q1 : (w6.setCell ⟨p, 0, none⟩ (.slice (some ⟨g', 0, none⟩) (s.l.length + 1) cap')).cell? ⟨p, 1, none⟩ = some (.map (some bf)) := blk_cell hb7 1
  clear hF6 hF7
  go_wp2_with (first | (at_mapUpdate; refine wpList_update rfl _ _ _ 54 rfl keyStr Tryz.underlying54 (keyF n) ((s.l.length : Nat) : Int) rfl rfl rfl hm7 ?_; intro w8 h8 hg8))
  go_ret
  rw [hs.out]
  exact push_post HH.out n _ Hkv.out Hko.out (HF1.out.alloc (.cells #[.string n.op, .int .i64 n.t.1, .bool n.t.2, .int .u64 n.num, .int .i64 n.v, .slice KA n.kids.length KC] 76)) h6 hgr hgg hlt6 h8 hg8 _
end TmW
end Go.Proofs.YtbbajekecppioaaGreatDoor
/- The pool's num, truth, Num, Var walked. -/
namespace Go.Proofs.YtbbajekecppioaaGreatDoor
open Go.RowKit Go.Mem Go.Wd Go.Tp
namespace TmW
theorem moves_pre {own own' : Nat → Prop} {w w1 w2 : World} (hf : Frm (fun _ => False) w w1) (h : PMoves own w1 own' w2) : PMoves own w own' w2 := (PMoves.of0 hf).trans h
theorem moves_post {own own' : Nat → Prop} {w w1 w2 : World} (h : PMoves own w own' w1) (hf : Frm (fun _ => False) w1 w2) : PMoves own w own' w2 := h.trans (.of0 hf)
theorem TPost.pre {own : Nat → Prop} {w w1 w2 : World} {p : Nat} {r : Value} {s' : TPool} {e : Ending} (hf : Frm (fun _ => False) w w1) (h : TPost own w1 p r s' e w2) : TPost own w p r s' e w2 := by
 obtain ⟨he, own', hP, hM⟩ := h
 exact ⟨he, own', hP, moves_pre hf hM⟩
def numN (t : Ty) (v : Nat) : TNode := ⟨sNum, t, normF t v, 0, []⟩
def numF (s : TPool) (t : Ty) (v : Nat) : Int × TPool := nodeF s (numN t v)
def truthF (s : TPool) (b : Bool) : Int × TPool := numF s (1, false) b.toNat
set_option maxRecDepth 100000 in
set_option maxHeartbeats 1000000 in
theorem num_calls {w : World} {own : Nat → Prop} {p : Nat} {s : TPool} (hE : Env w) (h : PoolAt w own p s) (t : Ty) (v : Nat) (hv : v < 2 ^ 64) (hroom : s.l.length < 4294967296) :
  Calls Tryz.prog 39 #[.pointer (some ⟨p, 0, none⟩), .agg #[.int .i64 t.1, .bool t.2], .int .u64 v] w (TPost own w p (.int .i64 (numF s t v).1) (numF s t v).2) := by
 have hF := Lib.hid (frm_alloc w (.cells #[.int .i64 t.1, .bool t.2] 23))
 have HB0 := Lib.hid (Box.new w t)
 obtain ⟨b0, b1⟩ := HB0.out.cells
 have HN := Lib.hid (fun w1 (hf : Frm (fun _ => False) w w1) => Norm_calls w1 t v hv (hE.frm0 hf).tabs)
 have HD := Lib.hid (fun w1 (hf : Frm (fun _ => False) w w1) => node_calls (hE.frm0 hf) (h.frm0 hf) (numN t v) (.slice none 0 0) (by show (3 : Nat) ≤ _; omega) (norm_lt64 _ _) ⟨by show (_ : Int) ≤ 0; omega, by show (0 : Int) ≤ _; omega⟩ (fun k hk => by cases hk) (by show (0 : Nat) ≤ _; omega) (Row.nil _ _ _) (fun g hg => by cases hg) hroom)
 have hs : Hid (numF s t v = nodeF s (numN t v)) := Lib.hid rfl
 generalize hq : nodeF s (numN t v) = q at *
 clear hE h hv hq
 go_enter Tryz.func39, Tryz.ntmps39
 go_wp2
 refine Plan.wp_region_plan [0, 0, 0, 0, 12, 30, 63, 127] [.mk [0, 1, 2, 3] 4 [0, 1], .mk [5] 6 []] [7] (by kernel_rfl) (by kernel_rfl) ?_
 simp only [Plan.wayOf, Plan.pickAll, List.getElem?_cons_zero, List.getElem?_cons_succ, List.getD_eq_getElem?_getD, Option.getD_some]
 refine Plan.wpWay_seg ?_
 repeat go_big_quiet_step (fail)
 refine wpQuiet_nil ?_; refine Plan.wpWay_act ?_
 go_wp2_with fail
 refine (HN.out _ hF.out.drew).mono ?_
 rintro e w1 ⟨rfl, hf1⟩
 have HB1 := Lib.hid (HB0.out.frmD hf1)
 obtain ⟨c0, c1⟩ := HB1.out.cells
 have HF1 := Lib.hid (frm_then hF.out.drew hf1)
 clear hf1
 go_wp2_with fail
 refine And.intro ?_ ?_; focus ((iterate 2 (refine Plan.again_cons ?_ ?_; focus (go_big_quiet_step (fail); exact wpQuiet_nil rfl))); exact Plan.again_nil)
 refine Plan.wpWay_seg ?_
 repeat go_big_quiet_step (fail)
 refine wpQuiet_nil ?_; refine Plan.wpWay_act ?_
 go_wp2_with fail
 refine (HD.out _ HF1.out).mono ?_
 rintro e w2 ⟨rfl, own2, hP2, hM2⟩
 have HP2 := Lib.hid hP2
 have HM2 := Lib.hid hM2
 clear hP2 hM2
 go_wp2_with fail
 refine And.intro Plan.again_nil ?_
 refine Plan.wpWay_last ?_
 repeat go_big_quiet_step (fail)
 refine wpQuiet_nil ?_; refine NoPanic.normal ?_
 go_wp2
 go_ret
 exact ⟨by rw [hs.out]; rfl, own2, by rw [hs.out]; exact HP2.out, moves_pre HF1.out HM2.out⟩
set_option maxRecDepth 100000 in
set_option maxHeartbeats 1000000 in
theorem truth_calls {w : World} {own : Nat → Prop} {p : Nat} {s : TPool} (hE : Env w) (h : PoolAt w own p s) (b : Bool) (hroom : s.l.length < 4294967296) :
  Calls Tryz.prog 41 #[.pointer (some ⟨p, 0, none⟩), .bool b] w (TPost own w p (.int .i64 (truthF s b).1) (truthF s b).2) := by
 cases b
 ·have HD := Lib.hid (fun w1 (hf : Frm (fun _ => False) w w1) => num_calls (hE.frm0 hf) (h.frm0 hf) (1, false) 0 (by decide) hroom)
  have hs : Hid (truthF s false = numF s (1, false) 0) := Lib.hid rfl
  generalize numF s (1, false) 0 = q at *
  clear hE h
  go_enter Tryz.func41, Tryz.ntmps41
  go_wp2_with fail
  refine (boolean_calls _).mono ?_
  rintro e w1 ⟨rfl, hf1⟩
  go_wp2_with fail
  refine (HD.out _ hf1).mono ?_
  rintro e w2 ⟨rfl, own2, hP2, hM2⟩
  have HF1 := Lib.hid hf1
  have HP2 := Lib.hid hP2
  have HM2 := Lib.hid hM2
  clear hP2 hM2 hf1
  go_wp2
  go_ret
  exact ⟨by rw [hs.out]; rfl, own2, by rw [hs.out]; exact HP2.out, moves_pre HF1.out HM2.out⟩
 ·have HD := Lib.hid (fun w1 (hf : Frm (fun _ => False) w w1) => num_calls (hE.frm0 hf) (h.frm0 hf) (1, false) 1 (by decide) hroom)
  have hs : Hid (truthF s true = numF s (1, false) 1) := Lib.hid rfl
  generalize numF s (1, false) 1 = q at *
  clear hE h
  go_enter Tryz.func41, Tryz.ntmps41
  go_wp2_with fail
  refine (boolean_calls _).mono ?_
  rintro e w1 ⟨rfl, hf1⟩
  go_wp2_with fail
  refine (HD.out _ hf1).mono ?_
  rintro e w2 ⟨rfl, own2, hP2, hM2⟩
  have HF1 := Lib.hid hf1
  have HP2 := Lib.hid hP2
  have HM2 := Lib.hid hM2
  clear hP2 hM2 hf1
  go_wp2
  go_ret
  exact ⟨by rw [hs.out]; rfl, own2, by rw [hs.out]; exact HP2.out, moves_pre HF1.out HM2.out⟩
def NumF (s : TPool) (t : Ty) (v : Nat) : (Int × Int) × TPool := if rightF t then (((numF s t v).1, 0), (numF s t v).2) else ((0, 100), s)
set_option maxRecDepth 100000 in
set_option maxHeartbeats 1000000 in
theorem Num_calls {w : World} {own : Nat → Prop} {p : Nat} {s : TPool} (hE : Env w) (h : PoolAt w own p s) (t : Ty) (v : Nat) (hv : v < 2 ^ 64) (hroom : s.l.length < 4294967296) :
  Calls Tryz.prog 19 #[.pointer (some ⟨p, 0, none⟩), .agg #[.int .i64 t.1, .bool t.2], .int .u64 v] w (TPost own w p (.tuple #[.int .i64 (NumF s t v).1.1, .int .i64 (NumF s t v).1.2]) (NumF s t v).2) := by
 have hF := Lib.hid (frm_alloc w (.cells #[.int .i64 t.1, .bool t.2] 23))
 have HB0 := Lib.hid (Box.new w t)
 have HR := Lib.hid (fun w1 (hf : Frm (fun _ => False) w w1) => Right_calls w1 t (hE.frm0 hf).tabs)
 have HD := Lib.hid (fun w1 (hf : Frm (fun _ => False) w w1) => num_calls (hE.frm0 hf) (h.frm0 hf) t v hv hroom)
 have HP := Lib.hid h
 clear hE h hv
 by_cases hr : rightF t = true
 ·have hs : Hid (NumF s t v = (((numF s t v).1, 0), (numF s t v).2)) := Lib.hid (by unfold NumF; rw [if_pos hr])
  rw [hr] at HR
  generalize numF s t v = q at *
  clear hr
  go_enter Tryz.func19, Tryz.ntmps19
  go_wp2_with fail
  refine (HR.out _ hF.out).mono ?_
  rintro e w1 ⟨rfl, hf1⟩
  obtain ⟨c0, c1⟩ := (HB0.out.frm0 hf1).cells
  have HF1 := Lib.hid (frm_then hF.out hf1)
  clear hf1
  go_wp2_with fail
  refine (HD.out _ HF1.out).mono ?_
  rintro e w2 ⟨rfl, own2, hP2, hM2⟩
  have HP2 := Lib.hid hP2
  have HM2 := Lib.hid hM2
  clear hP2 hM2
  go_wp2
  go_ret2
  exact ⟨by rw [hs.out]; rfl, own2, by rw [hs.out]; exact HP2.out, moves_pre HF1.out HM2.out⟩
 ·have hs : Hid (NumF s t v = ((0, 100), s)) := Lib.hid (by unfold NumF; rw [if_neg hr])
  rw [show rightF t = false by simpa using hr] at HR
  clear hr
  go_enter Tryz.func19, Tryz.ntmps19
  go_wp2_with fail
  refine (HR.out _ hF.out).mono ?_
  rintro e w1 ⟨rfl, hf1⟩
  have HF1 := Lib.hid (frm_then hF.out hf1)
  clear hf1
  go_wp2
  go_ret2
  exact ⟨by rw [hs.out]; rfl, own, by rw [hs.out]; exact HP.out.frm0 HF1.out, .of0 (HF1.out)⟩
def sVar : ByteArray := ⟨#[118, 97, 114]⟩
def varN (t : Ty) (v : Int) : TNode := ⟨sVar, t, 0, v, []⟩
def varOk (s : TPool) (t : Ty) (v : Int) : Bool := decide (0 ≤ v) && (match mget s.types v with | some u => decide (u = t) | none => true)
def typed (s : TPool) (t : Ty) (v : Int) : TPool := { s with types := mput s.types v t }
def VarF (s : TPool) (t : Ty) (v : Int) : (Int × Int) × TPool :=
 if rightF t then (if varOk s t v then (((nodeF (typed s t v) (varN t v)).1, 0), (nodeF (typed s t v) (varN t v)).2) else ((0, 102), s)) else ((0, 100), s)
theorem PoolAt.types {w : World} {own : Nat → Prop} {p : Nat} {s : TPool} (h : PoolAt w own p s) : ∃ bt, w.cell? ⟨p, 2, none⟩ = some (.map (some bt)) ∧ own bt ∧ MapAt w bt (Value.int .i64) encTy s.types := by
 obtain ⟨lv, bf, bt, kvs, H⟩ := h
 exact ⟨bt, H.cells.2.2.1, H.ownt, H.types⟩
theorem typed_at {w w1 : World} {own : Nat → Prop} {p : Nat} {s : TPool} (h : PoolAt w own p s) {bt : Nat} (hc : w.cell? ⟨p, 2, none⟩ = some (.map (some bt))) {m : List (Int × Ty)} (hm : MapAt w1 bt (Value.int .i64) encTy m) (hg : w.grownBy w1 (some bt)) :
  PoolAt w1 own p { s with types := m } ∧ PMoves own w own w1 := by
 obtain ⟨lv, bf, bt', kvs, H⟩ := h
 obtain rfl : bt' = bt := by have := H.cells.2.2.1; rw [hc] at this; simpa using this.symm
 obtain ⟨a1, a2, a3, a4⟩ := H.apart
 have hF := Frm.of_grown hg
 refine ⟨⟨lv, bf, bt', kvs, blk_frm H.blk hF (fun e => a2 (by cases e; rfl)), own_frm H.row hF fun g hg e => (a3 g hg).2.2 (by cases e; rfl), H.kvl, fun i n hn => ?_, H.rowOwn, H.ne, H.ownf, H.ownt, H.find.frm hF (fun e => H.ne (by cases e; rfl)), hm, H.me, fun b hb => Nat.lt_of_lt_of_le (H.lt b hb) hF.size, H.lo⟩, ⟨hF.mono fun x _ e => (by cases e; exact H.ownt), fun _ h => .inl h, fun b cs hb => blk_frm hb hF fun e => (by
  cases e
  obtain ⟨es, c, hm', _⟩ := H.types
  rw [hb] at hm'; cases hm')⟩⟩
 obtain ⟨kv, k1, k2, k3⟩ := H.kids i n hn
 exact ⟨kv, k1, k2.frm hF (fun g hg e => (a4 kv _ g k2 hg).2.2.1 (by cases e; rfl)), k3⟩
set_option maxRecDepth 100000 in
set_option maxHeartbeats 2000000 in
theorem Var_calls {w : World} {own : Nat → Prop} {p : Nat} {s : TPool} (hE : Env w) (h : PoolAt w own p s) (t : Ty) (v : Int) (hv : is64 v) (hroom : s.l.length < 4294967296) :
  Calls Tryz.prog 22 #[.pointer (some ⟨p, 0, none⟩), .agg #[.int .i64 t.1, .bool t.2], .int .i64 v] w (TPost own w p (.tuple #[.int .i64 (VarF s t v).1.1, .int .i64 (VarF s t v).1.2]) (VarF s t v).2) := by
 have hF := Lib.hid (frm_alloc w (.cells #[.int .i64 t.1, .bool t.2] 23))
 have HB0 := Lib.hid (Box.new w t)
 have HR := Lib.hid (fun w1 (hf : Frm (fun _ => False) w w1) => Right_calls w1 t (hE.frm0 hf).tabs)
 have HD := Lib.hid (fun w1 (hm : PMoves own w own w1) (hP : PoolAt w1 own p (typed s t v)) => node_calls (hE.moves hm h.lo) hP (varN t v) (.slice none 0 0) (by show (3 : Nat) ≤ _; omega) (by show (0 : Nat) < _; omega) hv (fun k hk => by cases hk) (by show (0 : Nat) ≤ _; omega) (Row.nil _ _ _) (fun g hg => by cases hg) hroom)
 have HP := Lib.hid h
 clear hE h hv
 by_cases hr : rightF t = true
 case neg =>
  have hs : Hid (VarF s t v = ((0, 100), s)) := Lib.hid (by unfold VarF; rw [if_neg hr])
  rw [show rightF t = false by simpa using hr] at HR
  clear hr HD
  go_enter Tryz.func22, Tryz.ntmps22
  go_wp2_with fail
  refine (HR.out _ hF.out).mono ?_
  rintro e w1 ⟨rfl, hf1⟩
  have HF1 := Lib.hid (frm_then hF.out hf1)
  clear hf1
  go_wp2
  go_ret2
  exact ⟨by rw [hs.out]; rfl, own, by rw [hs.out]; exact HP.out.frm0 HF1.out, .of0 (HF1.out)⟩
 case pos =>
 rw [hr] at HR
 by_cases h0 : v < 0
 ·have hs : Hid (VarF s t v = ((0, 102), s)) := Lib.hid (by unfold VarF varOk; rw [if_pos hr]; simp; intro h; omega)
  have d0 : decide (v < 0) = true := by simp [h0]
  clear hr h0
  go_enter Tryz.func22, Tryz.ntmps22
  go_wp2_with fail
  refine (HR.out _ hF.out).mono ?_
  rintro e w1 ⟨rfl, hf1⟩
  have HB1 := Lib.hid (HB0.out.frm0 hf1)
  obtain ⟨c0, c1⟩ := HB1.out.cells
  have hl0 := World.block_lt_of_cell? _ _ c0
  have HF1 := Lib.hid (frm_then hF.out hf1)
  have HP1 := Lib.hid (HP.out.frm0 HF1.out)
  obtain ⟨bt, c2, hbt, hmt⟩ := HP1.out.types
  have hlp := World.block_lt_of_cell? _ _ c2
  have hlk := lookup_run keyInt Tryz.underlying55 zeroTy hmt v true
  simp only [if_true, mval] at hlk
  have HMT := Lib.hid hmt
  have hbl := hmt.lt
  clear hf1 hmt
  cases hget : mget s.types v with
  | none =>
   simp only [hget, Option.map_none, Option.getD_none, Option.isSome_none] at hlk
   go_wp2
   go_ret2
   exact ⟨by rw [hs.out]; rfl, own, by rw [hs.out]; exact (HP1.out.alloc _), .of0 ((HF1.out.alloc _))⟩
  | some u =>
   simp only [hget, Option.map_some, Option.getD_some, Option.isSome_some, encTy] at hlk
   go_wp2
   go_ret2
   exact ⟨by rw [hs.out]; rfl, own, by rw [hs.out]; exact (HP1.out.alloc _), .of0 ((HF1.out.alloc _))⟩
 ·have d0 : decide (v < 0) = false := by simp; omega
  cases hget : mget s.types v with
  | none =>
   have hs : Hid (VarF s t v = (((nodeF (typed s t v) (varN t v)).1, 0), (nodeF (typed s t v) (varN t v)).2)) := Lib.hid (by unfold VarF varOk; rw [if_pos hr, hget]; simp; omega)
   have Hget := Lib.hid hget
   clear hr h0 hget
   go_enter Tryz.func22, Tryz.ntmps22
   go_wp2_with fail
   refine (HR.out _ hF.out).mono ?_
   rintro e w1 ⟨rfl, hf1⟩
   have HB1 := Lib.hid (HB0.out.frm0 hf1)
   obtain ⟨c0, c1⟩ := HB1.out.cells
   have hl0 := World.block_lt_of_cell? _ _ c0
   have HF1 := Lib.hid (frm_then hF.out hf1)
   have HP1 := Lib.hid (HP.out.frm0 HF1.out)
   obtain ⟨bt, c2, hbt, hmt⟩ := HP1.out.types
   have hlp := World.block_lt_of_cell? _ _ c2
   have hlk := lookup_run keyInt Tryz.underlying55 zeroTy hmt v true
   simp only [if_true, mval] at hlk
   have HMT := Lib.hid hmt
   have hbl := hmt.lt
   clear hf1 hmt
   simp only [Hget.out, Option.map_none, Option.getD_none, Option.isSome_none] at hlk
   have hblt := HP.out.lt bt hbt
   generalize hq : nodeF (typed s t v) (varN t v) = q at *
   clear hq
   go_wp2
   refine Plan.wp_region_plan [0, 1, 3, 7, 0, 0, 63] [.mk [0, 1, 2, 3, 4, 5] 6 []] [] (by kernel_rfl) (by kernel_rfl) ?_
   simp only [Plan.wayOf, Plan.pickAll, List.getElem?_cons_zero, List.getElem?_cons_succ, List.getD_eq_getElem?_getD, Option.getD_some]
   refine Plan.wpWay_seg ?_
   repeat go_big_quiet_step (fail)
   refine wpQuiet_nil ?_; refine Plan.wpWay_act ?_
   refine wpList_update rfl _ _ _ 55 rfl keyInt Tryz.underlying55 v t rfl rfl rfl (HMT.out.frm (S := fun _ => False) ((frm_alloc w1 _).drew) id) ?_
   intro w2 hm2 hg2
   obtain ⟨hP2, hM2⟩ := typed_at ((HP1.out.alloc _).drew) ((World.cell?_alloc_past _ _ _ hlp).trans c2) hm2 hg2
   have HP2 := Lib.hid hP2
   have HM2 := Lib.hid (moves_pre (HF1.out.alloc _).drew hM2)
   have HB2 := Lib.hid (HB1.out.frm (((frm_alloc w1 _).drew.mono fun _ _ h => h.elim).trans (Frm.of_grown hg2) (T := fun k => some bt = some k) (S := fun k => some bt = some k) fun _ _ h => h) (fun e => by simp at e; omega))
   obtain ⟨e0, e1⟩ := HB2.out.cells
   clear hP2 hM2 hm2 hg2
   go_simp
   go_wp2_with fail
   refine And.intro Plan.again_nil ?_
   refine Plan.wpWay_last ?_
   refine wpQuiet_nil ?_; refine NoPanic.normal ?_
   go_wp2_with fail
   refine (HD.out _ HM2.out HP2.out).mono ?_
   rintro e w3 ⟨rfl, own3, hP3, hM3⟩
   have HP3 := Lib.hid hP3
   have HM3 := Lib.hid (HM2.out.trans hM3)
   clear hP3 hM3
   go_wp2
   go_ret2
   exact ⟨by rw [hs.out]; rfl, own3, by rw [hs.out]; exact HP3.out, HM3.out⟩
  | some u =>
   by_cases hu : u = t
   ·have hs : Hid (VarF s t v = (((nodeF (typed s t v) (varN t v)).1, 0), (nodeF (typed s t v) (varN t v)).2)) := Lib.hid (by unfold VarF varOk; rw [if_pos hr, hget]; simp [hu]; omega)
    obtain rfl : t = u := hu.symm
    have Hget := Lib.hid hget
    clear hr h0 hget
    go_enter Tryz.func22, Tryz.ntmps22
    go_wp2_with fail
    refine (HR.out _ hF.out).mono ?_
    rintro e w1 ⟨rfl, hf1⟩
    have HB1 := Lib.hid (HB0.out.frm0 hf1)
    obtain ⟨c0, c1⟩ := HB1.out.cells
    have hl0 := World.block_lt_of_cell? _ _ c0
    have HF1 := Lib.hid (frm_then hF.out hf1)
    have HP1 := Lib.hid (HP.out.frm0 HF1.out)
    obtain ⟨bt, c2, hbt, hmt⟩ := HP1.out.types
    have hlp := World.block_lt_of_cell? _ _ c2
    have hlk := lookup_run keyInt Tryz.underlying55 zeroTy hmt v true
    simp only [if_true, mval] at hlk
    have HMT := Lib.hid hmt
    have hbl := hmt.lt
    clear hf1 hmt
    simp only [Hget.out, Option.map_some, Option.getD_some, Option.isSome_some, encTy] at hlk
    have hblt := HP.out.lt bt hbt
    generalize hq : nodeF (typed s t v) (varN t v) = q at *
    clear hq
    go_wp2
    refine Plan.wp_region_plan [0, 1, 3, 7, 0, 0, 63] [.mk [0, 1, 2, 3, 4, 5] 6 []] [] (by kernel_rfl) (by kernel_rfl) ?_
    simp only [Plan.wayOf, Plan.pickAll, List.getElem?_cons_zero, List.getElem?_cons_succ, List.getD_eq_getElem?_getD, Option.getD_some]
    refine Plan.wpWay_seg ?_
    repeat go_big_quiet_step (fail)
    refine wpQuiet_nil ?_; refine Plan.wpWay_act ?_
    refine wpList_update rfl _ _ _ 55 rfl keyInt Tryz.underlying55 v t rfl rfl rfl (HMT.out.frm (S := fun _ => False) ((frm_alloc w1 _).drew) id) ?_
    intro w2 hm2 hg2
    obtain ⟨hP2, hM2⟩ := typed_at ((HP1.out.alloc _).drew) ((World.cell?_alloc_past _ _ _ hlp).trans c2) hm2 hg2
    have HP2 := Lib.hid hP2
    have HM2 := Lib.hid (moves_pre (HF1.out.alloc _).drew hM2)
    have HB2 := Lib.hid (HB1.out.frm (((frm_alloc w1 _).drew.mono fun _ _ h => h.elim).trans (Frm.of_grown hg2) (T := fun k => some bt = some k) (S := fun k => some bt = some k) fun _ _ h => h) (fun e => by simp at e; omega))
    obtain ⟨e0, e1⟩ := HB2.out.cells
    clear hP2 hM2 hm2 hg2
    go_simp
    go_wp2_with fail
    refine And.intro Plan.again_nil ?_
    refine Plan.wpWay_last ?_
    refine wpQuiet_nil ?_; refine NoPanic.normal ?_
    go_wp2_with fail
    refine (HD.out _ HM2.out HP2.out).mono ?_
    rintro e w3 ⟨rfl, own3, hP3, hM3⟩
    have HP3 := Lib.hid hP3
    have HM3 := Lib.hid (HM2.out.trans hM3)
    clear hP3 hM3
    go_wp2
    go_ret2
    exact ⟨by rw [hs.out]; rfl, own3, by rw [hs.out]; exact HP3.out, HM3.out⟩
   ·have hs : Hid (VarF s t v = ((0, 102), s)) := Lib.hid (by unfold VarF varOk; rw [if_pos hr, hget]; simp [hu])
    have Hget := Lib.hid hget
    obtain ⟨y, r⟩ := u
    obtain ⟨x, q⟩ := t
    by_cases hxy : y = x
    ·subst hxy
     cases r <;> cases q
     case false.false => exact absurd rfl hu
     case true.true => exact absurd rfl hu
     all_goals
      clear hr h0 hget hu
      go_enter Tryz.func22, Tryz.ntmps22
      go_wp2_with fail
      refine (HR.out _ hF.out).mono ?_
      rintro e w1 ⟨rfl, hf1⟩
      have HB1 := Lib.hid (HB0.out.frm0 hf1)
      obtain ⟨c0, c1⟩ := HB1.out.cells
      have hl0 := World.block_lt_of_cell? _ _ c0
      have HF1 := Lib.hid (frm_then hF.out hf1)
      have HP1 := Lib.hid (HP.out.frm0 HF1.out)
      obtain ⟨bt, c2, hbt, hmt⟩ := HP1.out.types
      have hlp := World.block_lt_of_cell? _ _ c2
      have hlk := lookup_run keyInt Tryz.underlying55 zeroTy hmt v true
      simp only [if_true, mval] at hlk
      have HMT := Lib.hid hmt
      have hbl := hmt.lt
      clear hf1 hmt
      simp only [Hget.out, Option.map_some, Option.getD_some, Option.isSome_some, encTy] at hlk
      go_wp2
      go_ret2
      exact ⟨by rw [hs.out]; rfl, own, by rw [hs.out]; exact (HP1.out.alloc _), .of0 ((HF1.out.alloc _))⟩
    ·have dxy : (y == x) = false := by simp [hxy]
     clear hr h0 hget hu hxy
     go_enter Tryz.func22, Tryz.ntmps22
     go_wp2_with fail
     refine (HR.out _ hF.out).mono ?_
     rintro e w1 ⟨rfl, hf1⟩
     have HB1 := Lib.hid (HB0.out.frm0 hf1)
     obtain ⟨c0, c1⟩ := HB1.out.cells
     have hl0 := World.block_lt_of_cell? _ _ c0
     have HF1 := Lib.hid (frm_then hF.out hf1)
     have HP1 := Lib.hid (HP.out.frm0 HF1.out)
     obtain ⟨bt, c2, hbt, hmt⟩ := HP1.out.types
     have hlp := World.block_lt_of_cell? _ _ c2
     have hlk := lookup_run keyInt Tryz.underlying55 zeroTy hmt v true
     simp only [if_true, mval] at hlk
     have HMT := Lib.hid hmt
     have hbl := hmt.lt
     clear hf1 hmt
     simp only [Hget.out, Option.map_some, Option.getD_some, Option.isSome_some, encTy] at hlk
     go_wp2
     go_ret2
     exact ⟨by rw [hs.out]; rfl, own, by rw [hs.out]; exact (HP1.out.alloc _), .of0 ((HF1.out.alloc _))⟩
end TmW
end Go.Proofs.YtbbajekecppioaaGreatDoor
