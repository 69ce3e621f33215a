/- Package bdd, walked on: ite comes to what iteF computes. -/
import Derived.Test.YtjajpdmmoiiojaaBddW3
namespace Go.Proofs.Ytjajpdmmoiiojaa
open Go.RowKit Go.Mem Go.Bdd
namespace BddW

theorem makeF_begun (s : Sto) (v no yes : Int) : (makeF s v no yes).2.begun = true := by
  unfold makeF
  split
  · rfl
  · split
    · rfl
    · split <;> rfl

set_option maxRecDepth 100000 in
set_option maxHeartbeats 4000000 in
theorem ite_bodyA {rec : Sto → Int → Int → Int → Option ((Int × Int) × Sto)}
    (ih : Hid (∀ (w : World) (own : Nat → Prop) (p : Nat) (s : Sto), StoreAt w own p s → ∀ (f g h : Int) (r : Int × Int) (s' : Sto), rec s f g h = some (r, s') →
      Calls Try.prog 44 #[.pointer (some ⟨p, 0, none⟩), .int .i64 f, .int .i64 g, .int .i64 h] w (StPost own w p (.tuple #[.int .i64 r.1, .int .i64 r.2]) s')))
    {w : World} {own : Nat → Prop} {p : Nat} {s : Sto} (hS' : Hid (StoreAt w own p s)) (f g h : Int) (r : Int × Int) (s' : Sto)
    (b1 : (f == 1) = false) (b2 : (g == h) = false) (b3 : (f == 0) = false) (b4 : (g == 1) = false) (hr' : Hid (iteRest rec s f g h = some (r, s'))) :
    Calls Try.prog 44 #[.pointer (some ⟨p, 0, none⟩), .int .i64 f, .int .i64 g, .int .i64 h] w (StPost own w p (.tuple #[.int .i64 r.1, .int .i64 r.2]) s') := by
  go_enter Try.func44, Try.ntmps44
  go_wp2_with fail
  refine (maps_calls hS'.out).mono ?_
  rintro e w1 ⟨rfl, own1, ⟨lv, mf, mk, H⟩, hM⟩
  obtain ⟨_, _, c2, _, c7, _, fz⟩ := H.cells
  obtain ⟨gl, cap, rfl, hg1, hg2, hn⟩ : ∃ g cap, SliceIs w1 own1 p s.l lv g cap := H.slice
  obtain ⟨bf, bk, rfl, rfl, e3, e4, e5, e6, e7⟩ := H.maps rfl
  have hlt := H.lt p H.me
  have hltk := H.lt bk e5
  have hltg := H.lt gl hg1
  have hlk : ∀ nq, (Instr.lookup 78 (.map (some bk)) (.agg #[.int .i64 f, .int .i64 g, .int .i64 h]) true).run Try.prog ((w1.alloc (.cells #[.int .i64 f, .int .i64 g, .int .i64 h] 104)).drewN nq) = .ok (.tuple #[mval (.int .i64 0) i64 s.known (f, g, h), .bool (mget s.known (f, g, h)).isSome]) ((w1.alloc (.cells #[.int .i64 f, .int .i64 g, .int .i64 h] 104)).drewN nq) := fun nq => by
    have := lookup_run keyTriple Try.underlying78 zeroInt (mapAt_of_block (w' := (w1.alloc (.cells #[.int .i64 f, .int .i64 g, .int .i64 h] 104)).drewN nq) e7 (Below.heap_alloc _ _ _ hltk)) (f, g, h) true
    exact this
  have hr := hr'.out
  unfold iteRest at hr
  cases hget : mget s.known (f, g, h) with
  | some x =>
    rw [hget] at hlk hr
    have hlk' : ∀ nq, (Instr.lookup 78 (.map (some bk)) (.agg #[.int .i64 f, .int .i64 g, .int .i64 h]) true).run Try.prog ((w1.alloc (.cells #[.int .i64 f, .int .i64 g, .int .i64 h] 104)).drewN nq) = .ok (.tuple #[.int .i64 x, .bool true]) ((w1.alloc (.cells #[.int .i64 f, .int .i64 g, .int .i64 h] 104)).drewN nq) := fun nq => by
      rw [hlk nq]; simp [mval, hget, i64]
    simp only at hr
    cases hr
    clear hlk hget hn
    go_wp2
    go_quiet (fail)
    go_wp2
    go_ret2
    exact ⟨rfl, own1, (((StoreAt.mk H).alloc _).drewN _), hM.trans (.of_frm (((Frm.refl _ _).alloc _).drewN _) fun _ h => .inl h)⟩
  | none =>
    rw [hget] at hlk hr
    have hlk' : ∀ nq, (Instr.lookup 78 (.map (some bk)) (.agg #[.int .i64 f, .int .i64 g, .int .i64 h]) true).run Try.prog ((w1.alloc (.cells #[.int .i64 f, .int .i64 g, .int .i64 h] 104)).drewN nq) = .ok (.tuple #[.int .i64 0, .bool false]) ((w1.alloc (.cells #[.int .i64 f, .int .i64 g, .int .i64 h] 104)).drewN nq) := fun nq => by
      rw [hlk nq]; simp [mval, hget]
    simp only at hr
    clear hlk hget
    cases hf : nth s.l f with
    | none => rw [hf] at hr; cases hr
    | some nf =>
    cases hg : nth s.l g with
    | none => rw [hf, hg] at hr; cases hr
    | some ng =>
    cases hh : nth s.l h with
    | none => rw [hf, hg, hh] at hr; cases hr
    | some nh =>
    rw [hf, hg, hh] at hr
    simp only at hr
    obtain ⟨x0, _, _⟩ := hn f nf hf
    obtain ⟨y0, _, _⟩ := hn g ng hg
    obtain ⟨z0, _, _⟩ := hn h nh hh
    obtain ⟨lf0, lf1⟩ := nth_lt hf
    obtain ⟨lg0, lg1⟩ := nth_lt hg
    obtain ⟨lh0, lh1⟩ := nth_lt hh
    clear hf hg hh hn
    have Hr := Lib.hid hr
    clear hr
    go_wp2
    go_quiet (fail)
    go_wp2
    go_quiet (fail)
    simp only [mn3_if]
    generalize hW : World.drewN _ _ = W4
    have hS4 : StoreAt W4 own1 p (opened s) := by rw [← hW]; repeat (first | exact StoreAt.mk H | apply StoreAt.drewN | apply StoreAt.alloc)
    have hM4 : Moves own1 w1 own1 W4 := by rw [← hW]; exact .of_frm ((((Frm.refl _ _).alloc _).drewN _).drewN _) fun _ h => .inl h
    have hX4 : W4.heap[w1.heap.size]? = some (.cells #[.int .i64 f, .int .i64 g, .int .i64 h] 104) := by rw [← hW]; exact blk_new (w := w1) _
    clear hW
    have hnb : ¬ own1 w1.heap.size := fun e => by have := H.lt _ e; omega
    cases hsf : sideF s.l f (mn3 nf.1 ng.1 nh.1) with
    | none => have hr := Hr.out; rw [hsf] at hr; cases hr
    | some f' =>
    cases hsg : sideF s.l g (mn3 nf.1 ng.1 nh.1) with
    | none => have hr := Hr.out; rw [hsf, hsg] at hr; cases hr
    | some g' =>
    cases hsh : sideF s.l h (mn3 nf.1 ng.1 nh.1) with
    | none => have hr := Hr.out; rw [hsf, hsg, hsh] at hr; cases hr
    | some h' =>
    have hr := Hr.out
    rw [hsf, hsg, hsh] at hr
    simp only at hr
    clear Hr
    have Hr := Lib.hid hr
    have Hsf := Lib.hid hsf
    have Hsg := Lib.hid hsg
    have Hsh := Lib.hid hsh
    clear hr hsf hsg hsh x0 y0 z0 hlk'
    obtain ⟨f0, f1⟩ := f'
    obtain ⟨g0, g1⟩ := g'
    obtain ⟨h0, h1⟩ := h'
    generalize mn3 nf.1 ng.1 nh.1 = v at *
    go_wp2_with fail
    refine (side_calls hS4 f v (f0, f1) Hsf.out).mono ?_
    rintro e w' ⟨rfl, n1, rfl⟩
    go_wp2_with fail
    refine (side_calls (hS4.drewN _) g v (g0, g1) Hsg.out).mono ?_
    rintro e w' ⟨rfl, n2, rfl⟩
    go_wp2_with fail
    refine (side_calls (hS4.drewN _) h v (h0, h1) Hsh.out).mono ?_
    rintro e w' ⟨rfl, n3, rfl⟩
    generalize hW : World.drewN _ _ = W5
    have hS5 : StoreAt W5 own1 p (opened s) := by rw [← hW]; exact (hS4.drewN _).drewN _
    have hM5 : Moves own1 w1 own1 W5 := by rw [← hW]; exact hM4.trans (.of_frm (((Frm.refl _ _).drewN _).drewN _) fun _ h => .inl h)
    have hX5 : W5.heap[w1.heap.size]? = some (.cells #[.int .i64 f, .int .i64 g, .int .i64 h] 104) := by rw [← hW]; exact hX4
    clear hW hS4 hM4 hX4 Hsf Hsg Hsh
    cases hi0 : rec (opened s) f0 g0 h0 with
    | none => have hr := Hr.out; simp only [hi0] at hr; cases hr
    | some q0 =>
    obtain ⟨⟨r0, e0⟩, s0⟩ := q0
    have hr := Hr.out
    simp only [hi0] at hr
    clear Hr
    have Hr := Lib.hid hr
    have Hi0 := Lib.hid hi0
    clear hr hi0
    go_wp2_with fail
    refine (ih.out _ _ _ _ hS5 f0 g0 h0 _ _ Hi0.out).mono ?_
    rintro e w6 ⟨rfl, own6, hS6, hM6⟩
    obtain ⟨hX6, hnb6⟩ := hM6.keep hX5 hnb
    have hM6' := hM5.trans hM6
    clear hS5 hM5 hX5 hM6 Hi0
    by_cases he0 : e0 = 0
    case neg =>
      have hr := Hr.out
      simp only [ne_eq, he0, not_false_eq_true, if_true] at hr
      cases hr
      have b6 : (e0 != 0) = true := by simp [he0]
      clear Hr he0
      go_wp2
      go_ret2
      exact ⟨rfl, own6, hS6, hM.trans hM6'⟩
    case pos =>
      subst he0
      have hr := Hr.out
      simp only [ne_eq, not_true_eq_false, if_false] at hr
      clear Hr
      cases hi1 : rec s0 f1 g1 h1 with
      | none => simp only [hi1] at hr; cases hr
      | some q1 =>
      obtain ⟨⟨r1, e1⟩, s1⟩ := q1
      simp only [hi1] at hr
      have Hr := Lib.hid hr
      have Hi1 := Lib.hid hi1
      clear hr hi1
      go_wp2_with fail
      refine (ih.out _ _ _ _ hS6 f1 g1 h1 _ _ Hi1.out).mono ?_
      rintro e w7 ⟨rfl, own7, hS7, hM7⟩
      obtain ⟨hX7, hnb7⟩ := hM7.keep hX6 hnb6
      have hM7' := hM6'.trans hM7
      clear hS6 hM6' hX6 hM7 Hi1
      by_cases he1 : e1 = 0
      case neg =>
        have hr := Hr.out
        simp only [ne_eq, he1, not_false_eq_true, if_true] at hr
        cases hr
        have b6 : (e1 != 0) = true := by simp [he1]
        clear Hr he1
        go_wp2
        go_ret2
        exact ⟨rfl, own7, hS7, hM.trans hM7'⟩
      case pos =>
        subst he1
        have hr := Hr.out
        simp only [ne_eq, not_true_eq_false, if_false] at hr
        clear Hr
        have Hmk := Lib.hid (make_calls hS7 v r0 r1)
        have hbg : (makeF s1 v r0 r1).2.begun = true := makeF_begun _ _ _ _
        generalize makeF s1 v r0 r1 = m at *
        obtain ⟨⟨rm, em⟩, sm⟩ := m
        simp only at hr hbg
        have Hr := Lib.hid hr
        clear hr
        go_wp2_with fail
        refine Hmk.out.mono ?_
        rintro e w8 ⟨rfl, own8, hS8, hM8⟩
        obtain ⟨hX8, hnb8⟩ := hM8.keep hX7 hnb7
        have hM8' := hM7'.trans hM8
        clear hS7 hM7' hX7 hM8 Hmk
        by_cases hem : em = 0
        case neg =>
          have hr := Hr.out
          simp only [hem, if_false] at hr
          cases hr
          have b6 : (em == 0) = false := by simp [hem]
          clear Hr hem
          go_wp2
          go_ret2
          exact ⟨rfl, own8, hS8, hM.trans hM8'⟩
        case pos =>
          subst hem
          have hr1 : r = (rm, 0) ∧ s' = { sm with known := mput sm.known (f, g, h) rm } := by
            have hr := Hr.out
            rw [if_pos rfl] at hr
            simp only [Option.some.injEq, Prod.mk.injEq] at hr
            exact ⟨hr.1.symm, hr.2.symm⟩
          obtain ⟨rfl, hs'⟩ := hr1
          have Hs := Lib.hid hs'
          clear hs' Hr
          obtain ⟨lv8, mf8, mk8, H8⟩ := hS8
          obtain ⟨bf8, bk8, rfl, rfl, q3, q4, q5, q6, q7⟩ := H8.maps hbg
          obtain ⟨_, _, _, _, d7, _, _⟩ := H8.cells
          have x0 : w8.cell? ⟨w1.heap.size, 0, none⟩ = some (.int .i64 f) := blk_cell hX8 0
          have x1 : w8.cell? ⟨w1.heap.size, 1, none⟩ = some (.int .i64 g) := blk_cell hX8 1
          have x2 : w8.cell? ⟨w1.heap.size, 2, none⟩ = some (.int .i64 h) := blk_cell hX8 2
          go_wp2
          refine Plan.wp_region_plan [0, 1, 3, 7, 0, 0, 63] (List.cons (Plan.Seg.mk (List.cons 0 (List.cons 1 (List.cons 2 (List.cons 3 (List.cons 4 (List.cons 5 List.nil)))))) 6 List.nil) List.nil) List.nil (by kernel_rfl) (by kernel_rfl) ?_
          simp only [Plan.wayOf, Plan.pickAll, List.getElem?_cons_zero, List.getElem?_cons_succ, List.getD_eq_getElem?_getD, Option.getD_some]
          refine Plan.wpWay_seg ?_
          repeat go_big_quiet_step (fail)
          refine wpQuiet_nil ?_
          refine Plan.wpWay_act ?_
          refine wpList_update rfl _ _ _ 78 rfl keyTriple Try.underlying78 (f, g, h) rm rfl rfl rfl q7 ?_
          intro w9 h9 hg9
          go_simp
          go_wp2_with fail
          refine And.intro Plan.again_nil ?_
          refine Plan.wpWay_last ?_
          refine wpQuiet_nil ?_
          refine NoPanic.normal ?_
          go_wp2
          go_ret2
          have hg9' := grown_of (w0 := w8) hg9 rfl rfl rfl rfl
          rw [Hs.out]
          exact ⟨rfl, own8, StoreAt.mk (parts_known H8 hbg h9 hg9'), (hM.trans hM8').trans (.of_frm ((Frm.of_grown hg9').mono fun x _ e => by cases e; exact q5) fun _ h => .inl h)⟩

set_option maxRecDepth 100000 in
set_option maxHeartbeats 4000000 in
theorem ite_bodyB {rec : Sto → Int → Int → Int → Option ((Int × Int) × Sto)}
    (ih : Hid (∀ (w : World) (own : Nat → Prop) (p : Nat) (s : Sto), StoreAt w own p s → ∀ (f g h : Int) (r : Int × Int) (s' : Sto), rec s f g h = some (r, s') →
      Calls Try.prog 44 #[.pointer (some ⟨p, 0, none⟩), .int .i64 f, .int .i64 g, .int .i64 h] w (StPost own w p (.tuple #[.int .i64 r.1, .int .i64 r.2]) s')))
    {w : World} {own : Nat → Prop} {p : Nat} {s : Sto} (hS' : Hid (StoreAt w own p s)) (f g h : Int) (r : Int × Int) (s' : Sto)
    (b1 : (f == 1) = false) (b2 : (g == h) = false) (b3 : (f == 0) = false) (b4 : (g == 1) = true) (b5 : (h == 0) = false) (hr' : Hid (iteRest rec s f g h = some (r, s'))) :
    Calls Try.prog 44 #[.pointer (some ⟨p, 0, none⟩), .int .i64 f, .int .i64 g, .int .i64 h] w (StPost own w p (.tuple #[.int .i64 r.1, .int .i64 r.2]) s') := by
  go_enter Try.func44, Try.ntmps44
  go_wp2_with fail
  refine (maps_calls hS'.out).mono ?_
  rintro e w1 ⟨rfl, own1, ⟨lv, mf, mk, H⟩, hM⟩
  obtain ⟨_, _, c2, _, c7, _, fz⟩ := H.cells
  obtain ⟨gl, cap, rfl, hg1, hg2, hn⟩ : ∃ g cap, SliceIs w1 own1 p s.l lv g cap := H.slice
  obtain ⟨bf, bk, rfl, rfl, e3, e4, e5, e6, e7⟩ := H.maps rfl
  have hlt := H.lt p H.me
  have hltk := H.lt bk e5
  have hltg := H.lt gl hg1
  have hlk : ∀ nq, (Instr.lookup 78 (.map (some bk)) (.agg #[.int .i64 f, .int .i64 g, .int .i64 h]) true).run Try.prog ((w1.alloc (.cells #[.int .i64 f, .int .i64 g, .int .i64 h] 104)).drewN nq) = .ok (.tuple #[mval (.int .i64 0) i64 s.known (f, g, h), .bool (mget s.known (f, g, h)).isSome]) ((w1.alloc (.cells #[.int .i64 f, .int .i64 g, .int .i64 h] 104)).drewN nq) := fun nq => by
    have := lookup_run keyTriple Try.underlying78 zeroInt (mapAt_of_block (w' := (w1.alloc (.cells #[.int .i64 f, .int .i64 g, .int .i64 h] 104)).drewN nq) e7 (Below.heap_alloc _ _ _ hltk)) (f, g, h) true
    exact this
  have hr := hr'.out
  unfold iteRest at hr
  cases hget : mget s.known (f, g, h) with
  | some x =>
    rw [hget] at hlk hr
    have hlk' : ∀ nq, (Instr.lookup 78 (.map (some bk)) (.agg #[.int .i64 f, .int .i64 g, .int .i64 h]) true).run Try.prog ((w1.alloc (.cells #[.int .i64 f, .int .i64 g, .int .i64 h] 104)).drewN nq) = .ok (.tuple #[.int .i64 x, .bool true]) ((w1.alloc (.cells #[.int .i64 f, .int .i64 g, .int .i64 h] 104)).drewN nq) := fun nq => by
      rw [hlk nq]; simp [mval, hget, i64]
    simp only at hr
    cases hr
    clear hlk hget hn
    go_wp2
    go_quiet (fail)
    go_wp2
    go_ret2
    exact ⟨rfl, own1, (((StoreAt.mk H).alloc _).drewN _), hM.trans (.of_frm (((Frm.refl _ _).alloc _).drewN _) fun _ h => .inl h)⟩
  | none =>
    rw [hget] at hlk hr
    have hlk' : ∀ nq, (Instr.lookup 78 (.map (some bk)) (.agg #[.int .i64 f, .int .i64 g, .int .i64 h]) true).run Try.prog ((w1.alloc (.cells #[.int .i64 f, .int .i64 g, .int .i64 h] 104)).drewN nq) = .ok (.tuple #[.int .i64 0, .bool false]) ((w1.alloc (.cells #[.int .i64 f, .int .i64 g, .int .i64 h] 104)).drewN nq) := fun nq => by
      rw [hlk nq]; simp [mval, hget]
    simp only at hr
    clear hlk hget
    cases hf : nth s.l f with
    | none => rw [hf] at hr; cases hr
    | some nf =>
    cases hg : nth s.l g with
    | none => rw [hf, hg] at hr; cases hr
    | some ng =>
    cases hh : nth s.l h with
    | none => rw [hf, hg, hh] at hr; cases hr
    | some nh =>
    rw [hf, hg, hh] at hr
    simp only at hr
    obtain ⟨x0, _, _⟩ := hn f nf hf
    obtain ⟨y0, _, _⟩ := hn g ng hg
    obtain ⟨z0, _, _⟩ := hn h nh hh
    obtain ⟨lf0, lf1⟩ := nth_lt hf
    obtain ⟨lg0, lg1⟩ := nth_lt hg
    obtain ⟨lh0, lh1⟩ := nth_lt hh
    clear hf hg hh hn
    have Hr := Lib.hid hr
    clear hr
    go_wp2
    go_quiet (fail)
    go_wp2
    go_quiet (fail)
    simp only [mn3_if]
    generalize hW : World.drewN _ _ = W4
    have hS4 : StoreAt W4 own1 p (opened s) := by rw [← hW]; repeat (first | exact StoreAt.mk H | apply StoreAt.drewN | apply StoreAt.alloc)
    have hM4 : Moves own1 w1 own1 W4 := by rw [← hW]; exact .of_frm ((((Frm.refl _ _).alloc _).drewN _).drewN _) fun _ h => .inl h
    have hX4 : W4.heap[w1.heap.size]? = some (.cells #[.int .i64 f, .int .i64 g, .int .i64 h] 104) := by rw [← hW]; exact blk_new (w := w1) _
    clear hW
    have hnb : ¬ own1 w1.heap.size := fun e => by have := H.lt _ e; omega
    cases hsf : sideF s.l f (mn3 nf.1 ng.1 nh.1) with
    | none => have hr := Hr.out; rw [hsf] at hr; cases hr
    | some f' =>
    cases hsg : sideF s.l g (mn3 nf.1 ng.1 nh.1) with
    | none => have hr := Hr.out; rw [hsf, hsg] at hr; cases hr
    | some g' =>
    cases hsh : sideF s.l h (mn3 nf.1 ng.1 nh.1) with
    | none => have hr := Hr.out; rw [hsf, hsg, hsh] at hr; cases hr
    | some h' =>
    have hr := Hr.out
    rw [hsf, hsg, hsh] at hr
    simp only at hr
    clear Hr
    have Hr := Lib.hid hr
    have Hsf := Lib.hid hsf
    have Hsg := Lib.hid hsg
    have Hsh := Lib.hid hsh
    clear hr hsf hsg hsh x0 y0 z0 hlk'
    obtain ⟨f0, f1⟩ := f'
    obtain ⟨g0, g1⟩ := g'
    obtain ⟨h0, h1⟩ := h'
    generalize mn3 nf.1 ng.1 nh.1 = v at *
    go_wp2_with fail
    refine (side_calls hS4 f v (f0, f1) Hsf.out).mono ?_
    rintro e w' ⟨rfl, n1, rfl⟩
    go_wp2_with fail
    refine (side_calls (hS4.drewN _) g v (g0, g1) Hsg.out).mono ?_
    rintro e w' ⟨rfl, n2, rfl⟩
    go_wp2_with fail
    refine (side_calls (hS4.drewN _) h v (h0, h1) Hsh.out).mono ?_
    rintro e w' ⟨rfl, n3, rfl⟩
    generalize hW : World.drewN _ _ = W5
    have hS5 : StoreAt W5 own1 p (opened s) := by rw [← hW]; exact (hS4.drewN _).drewN _
    have hM5 : Moves own1 w1 own1 W5 := by rw [← hW]; exact hM4.trans (.of_frm (((Frm.refl _ _).drewN _).drewN _) fun _ h => .inl h)
    have hX5 : W5.heap[w1.heap.size]? = some (.cells #[.int .i64 f, .int .i64 g, .int .i64 h] 104) := by rw [← hW]; exact hX4
    clear hW hS4 hM4 hX4 Hsf Hsg Hsh
    cases hi0 : rec (opened s) f0 g0 h0 with
    | none => have hr := Hr.out; simp only [hi0] at hr; cases hr
    | some q0 =>
    obtain ⟨⟨r0, e0⟩, s0⟩ := q0
    have hr := Hr.out
    simp only [hi0] at hr
    clear Hr
    have Hr := Lib.hid hr
    have Hi0 := Lib.hid hi0
    clear hr hi0
    go_wp2_with fail
    refine (ih.out _ _ _ _ hS5 f0 g0 h0 _ _ Hi0.out).mono ?_
    rintro e w6 ⟨rfl, own6, hS6, hM6⟩
    obtain ⟨hX6, hnb6⟩ := hM6.keep hX5 hnb
    have hM6' := hM5.trans hM6
    clear hS5 hM5 hX5 hM6 Hi0
    by_cases he0 : e0 = 0
    case neg =>
      have hr := Hr.out
      simp only [ne_eq, he0, not_false_eq_true, if_true] at hr
      cases hr
      have b6 : (e0 != 0) = true := by simp [he0]
      clear Hr he0
      go_wp2
      go_ret2
      exact ⟨rfl, own6, hS6, hM.trans hM6'⟩
    case pos =>
      subst he0
      have hr := Hr.out
      simp only [ne_eq, not_true_eq_false, if_false] at hr
      clear Hr
      cases hi1 : rec s0 f1 g1 h1 with
      | none => simp only [hi1] at hr; cases hr
      | some q1 =>
      obtain ⟨⟨r1, e1⟩, s1⟩ := q1
      simp only [hi1] at hr
      have Hr := Lib.hid hr
      have Hi1 := Lib.hid hi1
      clear hr hi1
      go_wp2_with fail
      refine (ih.out _ _ _ _ hS6 f1 g1 h1 _ _ Hi1.out).mono ?_
      rintro e w7 ⟨rfl, own7, hS7, hM7⟩
      obtain ⟨hX7, hnb7⟩ := hM7.keep hX6 hnb6
      have hM7' := hM6'.trans hM7
      clear hS6 hM6' hX6 hM7 Hi1
      by_cases he1 : e1 = 0
      case neg =>
        have hr := Hr.out
        simp only [ne_eq, he1, not_false_eq_true, if_true] at hr
        cases hr
        have b6 : (e1 != 0) = true := by simp [he1]
        clear Hr he1
        go_wp2
        go_ret2
        exact ⟨rfl, own7, hS7, hM.trans hM7'⟩
      case pos =>
        subst he1
        have hr := Hr.out
        simp only [ne_eq, not_true_eq_false, if_false] at hr
        clear Hr
        have Hmk := Lib.hid (make_calls hS7 v r0 r1)
        have hbg : (makeF s1 v r0 r1).2.begun = true := makeF_begun _ _ _ _
        generalize makeF s1 v r0 r1 = m at *
        obtain ⟨⟨rm, em⟩, sm⟩ := m
        simp only at hr hbg
        have Hr := Lib.hid hr
        clear hr
        go_wp2_with fail
        refine Hmk.out.mono ?_
        rintro e w8 ⟨rfl, own8, hS8, hM8⟩
        obtain ⟨hX8, hnb8⟩ := hM8.keep hX7 hnb7
        have hM8' := hM7'.trans hM8
        clear hS7 hM7' hX7 hM8 Hmk
        by_cases hem : em = 0
        case neg =>
          have hr := Hr.out
          simp only [hem, if_false] at hr
          cases hr
          have b6 : (em == 0) = false := by simp [hem]
          clear Hr hem
          go_wp2
          go_ret2
          exact ⟨rfl, own8, hS8, hM.trans hM8'⟩
        case pos =>
          subst hem
          have hr1 : r = (rm, 0) ∧ s' = { sm with known := mput sm.known (f, g, h) rm } := by
            have hr := Hr.out
            rw [if_pos rfl] at hr
            simp only [Option.some.injEq, Prod.mk.injEq] at hr
            exact ⟨hr.1.symm, hr.2.symm⟩
          obtain ⟨rfl, hs'⟩ := hr1
          have Hs := Lib.hid hs'
          clear hs' Hr
          obtain ⟨lv8, mf8, mk8, H8⟩ := hS8
          obtain ⟨bf8, bk8, rfl, rfl, q3, q4, q5, q6, q7⟩ := H8.maps hbg
          obtain ⟨_, _, _, _, d7, _, _⟩ := H8.cells
          have x0 : w8.cell? ⟨w1.heap.size, 0, none⟩ = some (.int .i64 f) := blk_cell hX8 0
          have x1 : w8.cell? ⟨w1.heap.size, 1, none⟩ = some (.int .i64 g) := blk_cell hX8 1
          have x2 : w8.cell? ⟨w1.heap.size, 2, none⟩ = some (.int .i64 h) := blk_cell hX8 2
          go_wp2
          refine Plan.wp_region_plan [0, 1, 3, 7, 0, 0, 63] (List.cons (Plan.Seg.mk (List.cons 0 (List.cons 1 (List.cons 2 (List.cons 3 (List.cons 4 (List.cons 5 List.nil)))))) 6 List.nil) List.nil) List.nil (by kernel_rfl) (by kernel_rfl) ?_
          simp only [Plan.wayOf, Plan.pickAll, List.getElem?_cons_zero, List.getElem?_cons_succ, List.getD_eq_getElem?_getD, Option.getD_some]
          refine Plan.wpWay_seg ?_
          repeat go_big_quiet_step (fail)
          refine wpQuiet_nil ?_
          refine Plan.wpWay_act ?_
          refine wpList_update rfl _ _ _ 78 rfl keyTriple Try.underlying78 (f, g, h) rm rfl rfl rfl q7 ?_
          intro w9 h9 hg9
          go_simp
          go_wp2_with fail
          refine And.intro Plan.again_nil ?_
          refine Plan.wpWay_last ?_
          refine wpQuiet_nil ?_
          refine NoPanic.normal ?_
          go_wp2
          go_ret2
          have hg9' := grown_of (w0 := w8) hg9 rfl rfl rfl rfl
          rw [Hs.out]
          exact ⟨rfl, own8, StoreAt.mk (parts_known H8 hbg h9 hg9'), (hM.trans hM8').trans (.of_frm ((Frm.of_grown hg9').mono fun x _ e => by cases e; exact q5) fun _ h => .inl h)⟩

set_option maxRecDepth 100000 in
set_option maxHeartbeats 4000000 in
theorem ite_calls : ∀ (k : Nat) {w : World} {own : Nat → Prop} {p : Nat} {s : Sto} (_ : StoreAt w own p s) (f g h : Int) (r : Int × Int) (s' : Sto) (_ : iteF k s f g h = some (r, s')),
    Calls Try.prog 44 #[.pointer (some ⟨p, 0, none⟩), .int .i64 f, .int .i64 g, .int .i64 h] w (StPost own w p (.tuple #[.int .i64 r.1, .int .i64 r.2]) s')
  | 0, _, _, _, _, _, _, _, _, _, _, hr => by simp [iteF] at hr
  | k + 1, w, own, p, s, hS, f, g, h, r, s', hr => by
    have ih := Lib.hid (fun w own p s (h : StoreAt w own p s) => @ite_calls k w own p s h)
    rw [iteF] at hr
    by_cases c1 : f = 1 ∨ g = h
    · rw [if_pos c1] at hr
      cases hr
      have hfin := Lib.hid (show StPost own w p (.tuple #[.int .i64 g, .int .i64 0]) s (.returned (.tuple #[.int .i64 g, .int .i64 0])) w from ⟨rfl, own, hS, .refl _ _⟩)
      clear hS
      by_cases d1 : f = 1
      · have b1 : (f == 1) = true := by simp [d1]
        clear c1 d1
        go_enter Try.func44, Try.ntmps44
        go_wp2
        go_ret2
        exact hfin.out
      · have b1 : (f == 1) = false := by simp [d1]
        have b2 : (g == h) = true := by simpa [d1] using c1
        clear c1 d1
        go_enter Try.func44, Try.ntmps44
        go_wp2
        go_ret2
        exact hfin.out
    · rw [if_neg c1] at hr
      have b1 : (f == 1) = false := by simp; exact fun e => c1 (.inl e)
      have b2 : (g == h) = false := by simp; exact fun e => c1 (.inr e)
      clear c1
      by_cases c2 : f = 0
      · rw [if_pos c2] at hr
        cases hr
        have hfin := Lib.hid (show StPost own w p (.tuple #[.int .i64 h, .int .i64 0]) s (.returned (.tuple #[.int .i64 h, .int .i64 0])) w from ⟨rfl, own, hS, .refl _ _⟩)
        have b3 : (f == 0) = true := by simp [c2]
        clear hS c2
        go_enter Try.func44, Try.ntmps44
        go_wp2
        go_ret2
        exact hfin.out
      · rw [if_neg c2] at hr
        have b3 : (f == 0) = false := by simp [c2]
        clear c2
        by_cases c3 : g = 1 ∧ h = 0
        · rw [if_pos c3] at hr
          cases hr
          have hfin := Lib.hid (show StPost own w p (.tuple #[.int .i64 f, .int .i64 0]) s (.returned (.tuple #[.int .i64 f, .int .i64 0])) w from ⟨rfl, own, hS, .refl _ _⟩)
          have b4 : (g == 1) = true := by simp [c3]
          have b5 : (h == 0) = true := by simp [c3]
          clear hS c3
          go_enter Try.func44, Try.ntmps44
          go_wp2
          go_ret2
          exact hfin.out
        · rw [if_neg c3] at hr
          have hr' := Lib.hid hr
          have b45 : (g == 1) = false ∨ ((g == 1) = true ∧ (h == 0) = false) := by
            by_cases e1 : g = 1
            · exact .inr ⟨by simp [e1], by simp; exact fun e2 => c3 ⟨e1, e2⟩⟩
            · exact .inl (by simp [e1])
          clear c3 hr
          rcases b45 with b4 | ⟨b4, b5⟩
          · exact ite_bodyA ih (Lib.hid hS) f g h r s' b1 b2 b3 b4 hr'
          · exact ite_bodyB ih (Lib.hid hS) f g h r s' b1 b2 b3 b4 b5 hr'
end BddW
end Go.Proofs.Ytjajpdmmoiiojaa
