/- Package bdd, walked on: make, Var, side come to what makeF, varF, sideF compute. -/
import Derived.Test.YtjajpdmmoiiojaaBddW1
namespace Go.Proofs.Ytjajpdmmoiiojaa
open Go.RowKit Go.Mem Go.Bdd
namespace BddW

theorem StoreAt.mk {w : World} {own : Nat → Prop} {p : Nat} {s : Sto} {lv : Value} {mf mk : Option Nat} (H : Parts w own p s lv mf mk) : StoreAt w own p s := ⟨_, _, _, H⟩
theorem grown_of {w w0 w' : World} {r : Option Nat} (h : w.grownBy w' r) (e1 : w0.heap = w.heap) (e2 : w0.os = w.os) (e3 : w0.tape = w.tape) (e4 : w0.output = w.output) : w0.grownBy w' r :=
  ⟨h.os.trans e2.symm, h.tape.trans e3.symm, h.output.trans e4.symm, by rw [e1]; exact h.size, fun k hk hn => by rw [e1] at hk ⊢; exact h.block k hk hn⟩

theorem parts_tick {w : World} {own : Nat → Prop} {p : Nat} {s : Sto} {lv : Value} {mf mk : Option Nat} (H : Parts w own p (opened s) lv mf mk) :
    Parts (w.setCell ⟨p, 8, none⟩ (.int .u64 (IntKind.u64.wrap (s.works + 1)))) own p (tick s) lv mf mk := by
  have hF : Frm (fun b => b = p) w (w.setCell ⟨p, 8, none⟩ (.int .u64 (IntKind.u64.wrap (s.works + 1)))) := (Frm.refl (fun b => b = p) w).set (p := ⟨p, 8, none⟩) (.inl rfl) _
  have hrow : lv.ownBlock ≠ some p := fun e => by
    obtain ⟨cur, hc⟩ := own_elem H.row e
    rw [H.blk] at hc
    simp at hc
  refine ⟨blk_set H.blk 8 _ rfl, own_frm H.row hF fun g hg e => hrow (by rw [hg, e]), H.rowOwn, fun h => by simp [tick, opened] at h, fun _ => ?_, H.me, fun b hb => by simpa using H.lt b hb, H.room, H.pos⟩
  obtain ⟨bf, bk, e1, e2, e3, e4, e5, e6, e7⟩ := H.maps rfl
  have ne : ∀ r (m : List (T3 × Int)), MapAt w r encT3 i64 m → r ≠ p := fun r m ⟨es, c, hm, _⟩ e => by subst e; rw [H.blk] at hm; simp at hm
  exact ⟨bf, bk, e1, e2, e3, e4, e5, e6.frm hF (ne _ _ e6), e7.frm hF (ne _ _ e7)⟩

theorem Parts.apart {w : World} {own : Nat → Prop} {p g r : Nat} {s : Sto} {lv : Value} {mf mk : Option Nat} {m : List (T3 × Int)} (H : Parts w own p s lv mf mk) (hlv : lv.ownBlock = some g) (h : MapAt w r encT3 i64 m) : r ≠ p ∧ r ≠ g := by
  obtain ⟨es, c, hm, _⟩ := h
  refine ⟨fun e => ?_, fun e => ?_⟩
  · subst e; rw [H.blk] at hm; simp at hm
  · subst e
    obtain ⟨cur, hc⟩ := own_elem H.row hlv
    rw [hc] at hm
    simp at hm

theorem push_post {w w2 W5 w6 w8 : World} {own own1 : Nat → Prop} {p bf bk g g' cap : Nat} {s : Sto} {lv : Value} {n : T3} (H : Parts w2 own1 p s lv (some bf) (some bk)) (hbg : s.begun = true) (hM : Moves own w own1 w2) (hlv : lv.ownBlock = some g)
    (hF5 : Frm (fun _ => False) w2 W5) (h6 : w6.ownsRow 0 63 3 (.slice (some ⟨g', 0, none⟩) (s.l.length + 1) cap) (s.l.length + 1) (nodeCells s.l ++ [i64 n.1, i64 n.2.1, i64 n.2.2])) (hg6 : W5.grownBy w6 (some g)) (hgg : some g = some g' ∨ g' = W5.heap.size) (hlt6 : g' < w6.heap.size)
    (h8 : MapAt w8 bf encT3 i64 (mput s.find n s.l.length)) (hg8 : (w6.setCell ⟨p, 2, none⟩ (.slice (some ⟨g', 0, none⟩) (s.l.length + 1) cap)).grownBy w8 (some bf)) (ret : Value) :
    StPost own w p ret (push s n) (.returned ret) w8 := by
  have hrow : g ≠ p := fun e => by
    subst e
    obtain ⟨cur, hc⟩ := own_elem H.row hlv
    rw [H.blk] at hc
    simp at hc
  have hg' : g' ≠ p := by
    rcases hgg with h | h
    · cases h; exact hrow
    · have := H.lt p H.me; have := hF5.size; omega
  obtain ⟨bf', bk', e1, e2, e3, e4, e5, e6, e7⟩ := H.maps hbg
  cases e1
  cases e2
  have nbp : ∀ r (m : List (T3 × Int)), MapAt w2 r encT3 i64 m → r ≠ p := fun r m ⟨es, c, hm, _⟩ e => by subst e; rw [H.blk] at hm; simp at hm
  have nbg : ∀ r (m : List (T3 × Int)), MapAt w2 r encT3 i64 m → r ≠ g := fun r m ⟨es, c, hm, _⟩ e => by
    subst e
    obtain ⟨cur, hc⟩ := own_elem H.row hlv
    rw [hc] at hm
    simp at hm
  have hgb : g' ≠ bf := fun e => by
    rcases hgg with h | h
    · cases h; exact nbg _ _ e6 e.symm
    · have := H.lt bf e4; have := hF5.size; omega
  have hF6 : Frm (fun b => b = g) w2 w6 := (hF5.mono fun _ _ h => h.elim).grown hg6 fun k hk => .inl (by cases hk; rfl)
  have hF7 : Frm (fun b => b = g ∨ b = p) w2 (w6.setCell ⟨p, 2, none⟩ (.slice (some ⟨g', 0, none⟩) (s.l.length + 1) cap)) := (hF6.mono fun _ _ h => .inl h).set (p := ⟨p, 2, none⟩) (.inl (.inr rfl)) _
  have hF8 : Frm (fun b => b = g ∨ b = p ∨ b = bf) w2 w8 := (hF7.mono fun _ _ h => by rcases h with h | h <;> simp [h]).grown hg8 fun k hk => .inl (by cases hk; simp)
  have hF78 := Frm.of_grown hg8
  have hgo : own1 g := H.rowOwn g hlv
  have hpb : (w6.setCell ⟨p, 2, none⟩ (.slice (some ⟨g', 0, none⟩) (s.l.length + 1) cap)).heap[p]? = some (.cells (storeCells (push s n) (.slice (some ⟨g', 0, none⟩) (s.l.length + 1) cap) (some bf) (some bk)) 83 (0, 0)) :=
    blk_set (blk_frm H.blk hF6 (fun e => hrow e.symm)) 2 _ rfl
  refine ⟨rfl, fun b => own1 b ∨ b = g', ⟨.slice (some ⟨g', 0, none⟩) (s.l.length + 1) cap, some bf, some bk, ?_, ?_, fun x hx => ?_, fun h => (by rw [show (push s n).begun = s.begun from rfl, hbg] at h; cases h), fun _ => ⟨bf, bk, rfl, rfl, e3, .inl e4, .inl e5, h8, ?_⟩, .inl H.me, fun b hb => ?_, H.room, by simp [push]⟩, hM.trans (.of_frm (hF8.mono fun x _ hx => ?_) fun b hb => ?_)⟩
  · exact blk_grown hpb hg8 (fun e => nbp bf _ e6 (by cases e; rfl))
  · have h7 := own_set_ne h6 (p := ⟨p, 2, none⟩) (fun e => hg' (by cases e; rfl)) (.slice (some ⟨g', 0, none⟩) (s.l.length + 1) cap)
    have h8' := World.ownsRow.kept h7 hg8 (.inr fun e => hgb (by cases e; rfl))
    simpa [push, nodeCells_snoc] using h8'
  · cases hx; exact .inr rfl
  · exact e7.frm hF8 fun e => by
      rcases e with e | e | e
      · exact nbg _ _ e7 e
      · exact nbp _ _ e7 e
      · exact e3 e.symm
  · have := hF8.size
    rcases hb with hb | rfl
    · have := H.lt b hb; omega
    · have := hg8.size; simp at this; omega
  · rcases hx with rfl | rfl | rfl
    · exact hgo
    · exact H.me
    · exact e4
  · rcases hb with hb | rfl
    · exact .inl hb
    · rcases hgg with h | h
      · cases h; exact .inl hgo
      · exact .inr (by have := hF5.size; omega)

set_option maxRecDepth 100000 in
set_option maxHeartbeats 2000000 in
theorem make_calls {w : World} {own : Nat → Prop} {p : Nat} {s : Sto} (h : StoreAt w own p s) (v no yes : Int) :
    Calls Try.prog 45 #[.pointer (some ⟨p, 0, none⟩), .int .i64 v, .int .i64 no, .int .i64 yes] w
      (StPost own w p (.tuple #[.int .i64 (makeF s v no yes).1.1, .int .i64 (makeF s v no yes).1.2]) (makeF s v no yes).2) := by
  obtain ⟨i0, hi, hz0, hz1, hz2⟩ := info_parts info_node
  by_cases hny : no = yes
  · have hb : (no == yes) = true := by simp [hny]
    have hfin : ∀ w' own', StoreAt w' own' p (tick s) → Moves own w own' w' → StPost own w p (.tuple #[.int .i64 (makeF s v no yes).1.1, .int .i64 (makeF s v no yes).1.2]) (makeF s v no yes).2 (.returned (.tuple #[.int .i64 no, .int .i64 0])) w' :=
      fun w' own' h1 h2 => by simp only [makeF, hny, if_true]; exact ⟨rfl, own', h1, h2⟩
    have Hfin := Lib.hid hfin
    clear hfin hny
    go_enter Try.func45, Try.ntmps45
    go_wp2_with fail
    refine (maps_calls h).mono ?_
    rintro e w1 ⟨rfl, own1, ⟨lv, mf, mk, H⟩, hM⟩
    obtain ⟨_, _, _, _, _, c8, fz⟩ := H.cells
    go_wp2_with fail
    refine (add_calls _ _ _ _ c8 (fz 8)).mono ?_
    rintro e w2 ⟨rfl, hw⟩
    have H2 := parts_tick H
    have hM2 : Moves own w own1 w2 := hM.trans (.of_frm (by rw [← hw]; exact (Frm.refl _ _).set (p := ⟨p, 8, none⟩) (.inl H.me) _) fun _ h => .inl h)
    rw [show (opened s).works = s.works from rfl] at hw
    rw [hw] at H2
    clear hw
    go_wp2
    go_ret2
    exact Hfin.out _ _ ⟨_, _, _, H2⟩ hM2
  · have hb : (no == yes) = false := by simp [hny]
    have hmf : ∀ st : Sto, makeF s v no yes = match mget s.find (v, no, yes) with
      | some f => ((f, 0), tick s)
      | none => if s.room ≤ (s.l.length : Int) then ((0, 90), tick s) else (((s.l.length : Int), 0), push (tick s) (v, no, yes)) := fun _ => by
        simp only [makeF, hny, if_false]
        cases mget s.find (v, no, yes) <;> rfl
    have hmf := hmf s
    have hfin : ∀ w' own' r s', makeF s v no yes = (r, s') → StoreAt w' own' p s' → Moves own w own' w' → StPost own w p (.tuple #[.int .i64 (makeF s v no yes).1.1, .int .i64 (makeF s v no yes).1.2]) (makeF s v no yes).2 (.returned (.tuple #[.int .i64 r.1, .int .i64 r.2])) w' :=
      fun w' own' r s' e h1 h2 => by rw [e]; exact ⟨rfl, own', h1, h2⟩
    have Hfin := Lib.hid hfin
    have Hret : ∀ w' , StPost own w p (.tuple #[.int .i64 ((s.l.length : Nat) : Int), .int .i64 0]) (push (tick s) (v, no, yes)) (.returned (.tuple #[.int .i64 ((s.l.length : Nat) : Int), .int .i64 0])) w' → makeF s v no yes = (((s.l.length : Int), 0), push (tick s) (v, no, yes)) → StPost own w p (.tuple #[.int .i64 (makeF s v no yes).1.1, .int .i64 (makeF s v no yes).1.2]) (makeF s v no yes).2 (.returned (.tuple #[.int .i64 ((s.l.length : Nat) : Int), .int .i64 0])) w' := fun w' h1 h2 => by rw [h2]; exact h1
    have Hmf := Lib.hid hmf
    clear hfin hny hmf
    go_enter Try.func45, Try.ntmps45
    go_wp2_with fail
    refine (maps_calls h).mono ?_
    rintro e w1 ⟨rfl, own1, ⟨lv, mf, mk, H⟩, hM⟩
    obtain ⟨_, _, _, _, _, c8, fz⟩ := H.cells
    go_wp2_with fail
    refine (add_calls _ _ _ _ c8 (fz 8)).mono ?_
    rintro e w2 ⟨rfl, hw⟩
    have H2 := parts_tick H
    have hM2 : Moves own w own1 w2 := hM.trans (.of_frm (by rw [← hw]; exact (Frm.refl _ _).set (p := ⟨p, 8, none⟩) (.inl H.me) _) fun _ h => .inl h)
    rw [show (opened s).works = s.works from rfl] at hw
    rw [hw] at H2
    clear hw H c8 fz h hM
    obtain ⟨_, c1, c2, c6, _, _, fz⟩ := H2.cells
    obtain ⟨g, cap, rfl, hg1, hg2, _⟩ := H2.slice
    obtain ⟨bf, bk, rfl, rfl, e3, e4, e5, e6, e7⟩ := H2.maps rfl
    have hlt := H2.lt p H2.me
    have hltf := H2.lt bf e4
    have hlk : ∀ nq, (Instr.lookup 77 (.map (some bf)) (.agg #[.int .i64 v, .int .i64 no, .int .i64 yes]) true).run Try.prog ((w2.alloc (.cells #[.int .i64 v, .int .i64 no, .int .i64 yes] 63)).drewN nq) = .ok (.tuple #[mval (.int .i64 0) i64 s.find (v, no, yes), .bool (mget s.find (v, no, yes)).isSome]) ((w2.alloc (.cells #[.int .i64 v, .int .i64 no, .int .i64 yes] 63)).drewN nq) := fun nq => by
      have := lookup_run keyNode Try.underlying77 zeroInt (mapAt_of_block (w' := (w2.alloc (.cells #[.int .i64 v, .int .i64 no, .int .i64 yes] 63)).drewN nq) e6 (Below.heap_alloc _ _ _ hltf)) (v, no, yes) true
      exact this
    have Hp := Lib.hid (H2.pos)
    cases hget : mget s.find (v, no, yes) with
    | some f =>
      rw [hget] at hlk
      have hlk' : ∀ nq, (Instr.lookup 77 (.map (some bf)) (.agg #[.int .i64 v, .int .i64 no, .int .i64 yes]) true).run Try.prog ((w2.alloc (.cells #[.int .i64 v, .int .i64 no, .int .i64 yes] 63)).drewN nq) = .ok (.tuple #[.int .i64 f, .bool true]) ((w2.alloc (.cells #[.int .i64 v, .int .i64 no, .int .i64 yes] 63)).drewN nq) := fun nq => by
        rw [hlk nq]; simp [mval, hget, i64]
      have hm : makeF s v no yes = ((f, 0), tick s) := by rw [Hmf.out, hget]
      have Hm := Lib.hid hm
      clear hlk hm hget
      go_wp2
      go_quiet (fail)
      go_wp2
      go_ret2
      exact Hfin.out _ _ _ _ Hm.out (((StoreAt.mk H2).alloc _).drewN _) (hM2.trans (.of_frm (((Frm.refl _ _).alloc _).drewN _) fun _ h => .inl h))
    | none =>
      rw [hget] at hlk
      have hlk' : ∀ nq, (Instr.lookup 77 (.map (some bf)) (.agg #[.int .i64 v, .int .i64 no, .int .i64 yes]) true).run Try.prog ((w2.alloc (.cells #[.int .i64 v, .int .i64 no, .int .i64 yes] 63)).drewN nq) = .ok (.tuple #[.int .i64 0, .bool false]) ((w2.alloc (.cells #[.int .i64 v, .int .i64 no, .int .i64 yes] 63)).drewN nq) := fun nq => by
        rw [hlk nq]; simp [mval, hget]
      by_cases hroom : s.room ≤ (s.l.length : Int)
      · have hm : makeF s v no yes = ((0, 90), tick s) := by rw [Hmf.out, hget]; simp [hroom]
        have Hm := Lib.hid hm
        have hr : ((tick s).l.length : Int) ≥ (tick s).room := hroom
        clear hlk hm hget
        go_wp2
        go_quiet (fail)
        go_wp2
        go_quiet (fail)
        go_wp2
        go_ret2
        exact Hfin.out _ _ _ _ Hm.out ((((StoreAt.mk H2).alloc _).drewN _).drewN _) (hM2.trans (.of_frm ((((Frm.refl _ _).alloc _).drewN _).drewN _) fun _ h => .inl h))
      · have hm : makeF s v no yes = (((s.l.length : Int), 0), push (tick s) (v, no, yes)) := by rw [Hmf.out, hget]; simp [hroom]
        have Hm := Lib.hid hm
        have hr : ¬ ((tick s).l.length : Int) ≥ (tick s).room := hroom
        have hlen : (tick s).l.length ≤ 16777216 := by have := H2.room; omega
        clear hlk hm hget hroom
        go_wp2
        go_quiet (fail)
        go_wp2
        go_quiet (fail)
        go_wp2
        refine Plan.wp_region_plan [0, 0, 2, 6, 14, 0, 32, 126, 255, 511, 1023] (List.cons (Plan.Seg.mk (List.cons 0 (List.cons 1 (List.cons 2 (List.cons 3 (List.cons 4 (List.cons 5 List.nil)))))) 6 (List.cons 0 (List.cons 1 (List.cons 2 (List.cons 3 (List.cons 4 List.nil)))))) (List.cons (Plan.Seg.mk List.nil 7 (List.cons 0 List.nil)) (List.cons (Plan.Seg.mk (List.cons 8 (List.cons 9 List.nil)) 10 List.nil) List.nil))) List.nil (by kernel_rfl) (by kernel_rfl) ?_
        simp only [Plan.wayOf, Plan.pickAll, List.getElem?_cons_zero, List.getElem?_cons_succ, List.getD_eq_getElem?_getD, Option.getD_some]
        refine Plan.wpWay_seg ?_
        repeat go_big_quiet_step (fail)
        refine wpQuiet_nil ?_
        refine Plan.wpWay_act ?_
        go_wp2_with (fail)
        refine And.intro ?_ ?_
        focus
          refine Plan.again_cons ?_ ?_
          focus
            go_big_quiet_step (fail)
            exact wpQuiet_nil rfl
          refine Plan.again_cons ?_ ?_
          focus
            go_big_quiet_step (fail)
            exact wpQuiet_nil rfl
          refine Plan.again_cons ?_ ?_
          focus
            go_big_quiet_step (fail)
            exact wpQuiet_nil rfl
          refine Plan.again_cons ?_ ?_
          focus
            go_big_quiet_step (fail)
            exact wpQuiet_nil rfl
          refine Plan.again_cons ?_ ?_
          focus
            go_big_quiet_step (fail)
            exact wpQuiet_nil rfl
          exact Plan.again_nil
        refine Plan.wpWay_seg ?_
        refine wpQuiet_nil ?_
        refine Plan.wpWay_act ?_
        refine wpList_append_lies _ rfl _ _ 64 rfl 0 63 i0 (.agg #[.int .i64 0, .int .i64 0, .int .i64 0]) 3 24 Try.underlying64 hi hz0 hz1 hz2 rfl (by decide) (.slice (some ⟨g, 0, none⟩) (tick s).l.length cap) _ _ rfl ((H2.row.alloc _).alloc _) ⟨w2.heap.size + 1, 0, none⟩ 1 1 [.int .i64 v, .int .i64 no, .int .i64 yes] rfl rfl ?c1 ?c2 (by decide) ?c3 ?c4 (Nat.zero_le _) _ rfl ?_
        case c1 => exact World.news_of_block (blk_new_at (.cells #[.int .i64 v, .int .i64 no, .int .i64 yes] 63) (by simp))
        case c2 => simp [Value.oneCell']
        case c3 => have : maxLen = 9223372036854775807 := rfl; omega
        case c4 => omega
        intro g' cap' w6 h6 hg6 hgg hlt6
        have hgr : ((w2.alloc (.cells #[.int .i64 v, .int .i64 no, .int .i64 yes] 63)).alloc (.cells #[.int .i64 v, .int .i64 no, .int .i64 yes] 63)).grownBy w6 (some g) := grown_of hg6 rfl rfl rfl rfl
        clear hg6
        have hb6 := blk_grown (blk_alloc (blk_alloc H2.blk (.cells #[.int .i64 v, .int .i64 no, .int .i64 yes] 63)) (.cells #[.int .i64 v, .int .i64 no, .int .i64 yes] 63)) hgr (fun e => hg2 (by cases e; rfl))
        have d2 : w6.cell? ⟨p, 2, none⟩ = some (.slice (some ⟨g, 0, none⟩) (tick s).l.length cap) := blk_cell hb6 2
        have dz : w6.frozen? ⟨p, 2, none⟩ = false := blk_free hb6 2
        go_simp
        go_wp2_with fail
        refine And.intro ?_ ?_
        focus
          refine Plan.again_cons ?_ ?_
          focus
            go_big_quiet_step (fail)
            exact wpQuiet_nil rfl
          exact Plan.again_nil
        refine Plan.wpWay_seg ?_
        repeat go_big_quiet_step (fail)
        refine wpQuiet_nil ?_
        refine Plan.wpWay_act ?_
        go_wp2_with (fail)
        refine And.intro Plan.again_nil ?_
        refine Plan.wpWay_last ?_
        refine wpQuiet_nil ?_
        refine NoPanic.normal ?_
        have hgl := H2.lt g hg1
        have hbox := blk_grown (blk_alloc (blk_new (w := w2) (.cells #[.int .i64 v, .int .i64 no, .int .i64 yes] 63)) (.cells #[.int .i64 v, .int .i64 no, .int .i64 yes] 63)) hgr (fun e => by cases e; omega)
        obtain ⟨nb1, nb2⟩ := H2.apart (g := g) rfl e6
        have hF7 : Frm (fun b => b = g ∨ b = p) w2 (w6.setCell ⟨p, 2, none⟩ (.slice (some ⟨g', 0, none⟩) ((tick s).l.length + 1) cap')) := ((((Frm.refl _ w2).alloc (.cells #[.int .i64 v, .int .i64 no, .int .i64 yes] 63)).alloc (.cells #[.int .i64 v, .int .i64 no, .int .i64 yes] 63)).grown hgr (fun k hk => .inl (by cases hk; exact .inl rfl))).set (p := ⟨p, 2, none⟩) (.inl (.inr rfl)) _
        have hm7 := e6.frm hF7 (fun e => by rcases e with e | e; exact nb2 e; exact nb1 e)
        have hb7 := blk_set hb6 2 (.slice (some ⟨g', 0, none⟩) ((tick s).l.length + 1) cap') rfl
        have hx7 := blk_set_ne hbox (p := ⟨p, 2, none⟩) (by show w2.heap.size ≠ p; omega) (.slice (some ⟨g', 0, none⟩) ((tick s).l.length + 1) cap')
        have q6 : (w6.setCell ⟨p, 2, none⟩ (.slice (some ⟨g', 0, none⟩) ((tick s).l.length + 1) cap')).cell? ⟨p, 6, none⟩ = some (.map (some bf)) := blk_cell hb7 6
        have q2 : (w6.setCell ⟨p, 2, none⟩ (.slice (some ⟨g', 0, none⟩) ((tick s).l.length + 1) cap')).cell? ⟨p, 2, none⟩ = some (.slice (some ⟨g', 0, none⟩) ((tick s).l.length + 1) cap') := blk_cell hb7 2
        have x0 : (w6.setCell ⟨p, 2, none⟩ (.slice (some ⟨g', 0, none⟩) ((tick s).l.length + 1) cap')).cell? ⟨w2.heap.size, 0, none⟩ = some (.int .i64 v) := blk_cell hx7 0
        have x1 : (w6.setCell ⟨p, 2, none⟩ (.slice (some ⟨g', 0, none⟩) ((tick s).l.length + 1) cap')).cell? ⟨w2.heap.size, 1, none⟩ = some (.int .i64 no) := blk_cell hx7 1
        have x2 : (w6.setCell ⟨p, 2, none⟩ (.slice (some ⟨g', 0, none⟩) ((tick s).l.length + 1) cap')).cell? ⟨w2.heap.size, 2, none⟩ = some (.int .i64 yes) := blk_cell hx7 2
        go_wp2
        refine Plan.wp_region_plan [0, 1, 3, 7, 0, 0, 32, 96, 224, 480, 992, 2047] (List.cons (Plan.Seg.mk (List.cons 0 (List.cons 1 (List.cons 2 (List.cons 3 (List.cons 4 (List.cons 5 (List.cons 6 (List.cons 7 (List.cons 8 (List.cons 9 (List.cons 10 List.nil))))))))))) 11 List.nil) List.nil) List.nil (by kernel_rfl) (by kernel_rfl) ?_
        simp only [Plan.wayOf, Plan.pickAll, List.getElem?_cons_zero, List.getElem?_cons_succ, List.getD_eq_getElem?_getD, Option.getD_some]
        refine Plan.wpWay_seg ?_
        repeat go_big_quiet_step (fail)
        refine wpQuiet_nil ?_
        refine Plan.wpWay_act ?_
        refine wpList_update rfl _ _ _ 77 rfl keyNode Try.underlying77 (v, no, yes) ((s.l.length : Nat) : Int) rfl rfl ?c1 hm7 ?_
        case c1 => simp [Act.eval, i64]; rfl
        intro w8 h8 hg8
        go_simp
        go_wp2_with fail
        refine And.intro Plan.again_nil ?_
        refine Plan.wpWay_last ?_
        refine wpQuiet_nil ?_
        refine NoPanic.normal ?_
        have hb8 := blk_grown hb7 (grown_of (w0 := w6.setCell ⟨p, 2, none⟩ (.slice (some ⟨g', 0, none⟩) ((tick s).l.length + 1) cap')) hg8 rfl rfl rfl rfl) (fun e => nb1 (by cases e; rfl))
        have y2 : w8.cell? ⟨p, 2, none⟩ = some (.slice (some ⟨g', 0, none⟩) ((tick s).l.length + 1) cap') := blk_cell hb8 2
        go_wp2
        go_ret2
        refine Hret _ (push_post H2 rfl hM2 rfl (((Frm.refl _ w2).alloc (.cells #[.int .i64 v, .int .i64 no, .int .i64 yes] 63)).alloc (.cells #[.int .i64 v, .int .i64 no, .int .i64 yes] 63)) h6 hgr hgg hlt6 h8 (grown_of (w0 := w6.setCell ⟨p, 2, none⟩ (.slice (some ⟨g', 0, none⟩) ((tick s).l.length + 1) cap')) hg8 rfl rfl rfl rfl) _) Hm.out
end BddW
end Go.Proofs.Ytjajpdmmoiiojaa
