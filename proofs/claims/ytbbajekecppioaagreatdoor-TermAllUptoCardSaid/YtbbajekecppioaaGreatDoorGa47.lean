/- The pool's All: what it does, and what it means. -/
import Derived.Test.YtbbajekecppioaaGreatDoorGa43
set_option linter.unusedSimpArgs false
set_option linter.unusedVariables false
namespace Go.Proofs.YtbbajekecppioaaGreatDoor
open Go.RowKit Go.Mem Go.Wd Go.Tp
namespace TmW
def allF (s : TPool) (out : Int) : List Int → (Int × Int) × TPool
  | [] => ((out, 0), s)
  | f :: r => if (DoF s sLand [out, f]).1.2 = 0 then allF (DoF s sLand [out, f]).2 (DoF s sLand [out, f]).1.1 r else ((0, (DoF s sLand [out, f]).1.2), (DoF s sLand [out, f]).2)
def AllF (s : TPool) (l : List Int) : (Int × Int) × TPool := if l.all (inP s) = true then allF (truthF s true).2 (truthF s true).1 l else ((0, 101), s)
theorem typed_land {s : TPool} {a b : Int} (ha : typeF s a = (1, false)) : typedOk s sLand [a, b] = decide (typeF s b = (1, false)) := by
  have hd : typedOk s sLand [a, b] = decide (typeF s a = typeF s b ∧ (applyF sLand (typeF s b) [0, 0]).2 = 0) := by
    unfold typedOk
    rw [Bool.eq_iff_iff]
    simp [allTy]
  rw [hd, Bool.eq_iff_iff, decide_eq_true_iff, decide_eq_true_iff, ha]
  constructor
  · exact fun h => h.1.symm
  · intro h
    rw [h]
    exact ⟨rfl, by kernel_rfl⟩
theorem land_val {a b : Nat} (ha : a < 2) (hb : b < 2) : (applyF sLand (1, false) [a, b]).1 = a &&& b := by
  have h1 : a = 0 ∨ a = 1 := by omega
  have h2 : b = 0 ∨ b = 1 := by omega
  have k00 : (applyF sLand (1, false) [0, 0]).1 = 0 &&& 0 := by kernel_rfl
  have k01 : (applyF sLand (1, false) [0, 1]).1 = 0 &&& 1 := by kernel_rfl
  have k10 : (applyF sLand (1, false) [1, 0]).1 = 1 &&& 0 := by kernel_rfl
  have k11 : (applyF sLand (1, false) [1, 1]).1 = 1 &&& 1 := by kernel_rfl
  rcases h1 with rfl | rfl <;> rcases h2 with rfl | rfl
  · exact k00
  · exact k01
  · exact k10
  · exact k11
/-- What All came to. -/
structure Alls (e : Int → Nat) (s : TPool) (D : Int → Nat) (out : Int) (l : List Int) (r : (Int × Int) × TPool) : Prop where
  good : ∃ D', Good e r.2 D' ∧ Grow s D r.2 D' ∧ ((∀ f ∈ l, (typeF s f).1 = 1) → r.1.2 = 0 ∧ inP r.2 r.1.1 = true ∧ D' r.1.1 = (l.map D).foldl (· &&& ·) (D out))
  types : r.2.types = s.types
  bad : ¬ (∀ f ∈ l, (typeF s f).1 = 1) → r.1 = (0, 100)
theorem all_law {e : Int → Nat} : ∀ (l : List Int) {s : TPool} {D : Int → Nat}, Good e s D → ∀ {out : Int}, inP s out = true → typeF s out = (1, false) → (∀ f ∈ l, inP s f = true) → Alls e s D out l (allF s out l)
  | [], s, D, h, out, ho, ht, hl => ⟨⟨D, h, Grow.refl _ _, fun _ => ⟨rfl, ho, rfl⟩⟩, rfl, fun hn => absurd (fun f hf => by cases hf) hn⟩
  | f :: r, s, D, h, out, ho, ht, hl => by
    have hf := hl f (by simp)
    have hk : ∀ k ∈ [out, f], inP s k = true := by
      intro k hk
      simp only [List.mem_cons, List.not_mem_nil, or_false] at hk
      rcases hk with rfl | rfl
      · exact ho
      · exact hf
    by_cases hty : typeF s f = (1, false)
    · have hd := do_done h hk (op := sLand) (by rw [typed_land ht, hty]; rfl)
      obtain ⟨D2, G2, W2, v2⟩ := hd.came.out
      have hlast : lastTy s [out, f] = (1, false) := hty
      have hres : resultF sLand (lastTy s [out, f]) = (1, false) := result_logic (.inl rfl) _
      have hv : D2 (DoF s sLand [out, f]).1.1 = D out &&& D f := by
        rw [v2, hlast]
        exact land_val (by have := h.lt ho; rw [ht, wid_bool] at this; exact this) (by have := h.lt hf; rw [hty, wid_bool] at this; exact this)
      have hin := hd.came.inn
      have htt := hd.came.typ
      rw [hres] at htt
      have hl2 : ∀ k ∈ r, inP (DoF s sLand [out, f]).2 k = true := fun k hk => W2.inp (hl k (by simp [hk]))
      have ih := all_law r G2 hin htt hl2
      have htr : ∀ k ∈ r, typeF (DoF s sLand [out, f]).2 k = typeF s k := fun k hk => W2.typ (hl k (by simp [hk]))
      rw [allF, if_pos hd.err]
      obtain ⟨D3, G3, W3, h3⟩ := ih.good
      have hmap : r.map D2 = r.map D := List.map_congr_left fun k hk => W2.den k (hl k (by simp [hk]))
      refine ⟨⟨D3, G3, W2.trans W3, fun hb => ?_⟩, ih.types.trans hd.types, fun hn => ih.bad fun hb => hn fun k hk => ?_⟩
      · obtain ⟨q1, q2, q3⟩ := h3 fun k hk => by rw [htr k hk]; exact hb k (by simp [hk])
        refine ⟨q1, q2, ?_⟩
        rw [q3, hv, hmap]
        rfl
      · rcases List.mem_cons.1 hk with rfl | hk
        · rw [hty]
        · rw [← htr k hk]; exact hb k hk
    · have hbad := typed_in hk (op := sLand) (by rw [typed_land ht]; simpa using hty)
      have h1 : ¬ (typeF s f).1 = 1 := fun h1 => hty ((right_one (h.right hf)).1 h1)
      rw [allF, hbad, if_neg (show ¬ (100 : Int) = 0 by decide)]
      exact ⟨⟨D, h, Grow.refl _ _, fun hb => absurd (hb f (by simp)) h1⟩, rfl, fun _ => rfl⟩
theorem All_law {e : Int → Nat} {l : List Int} {s : TPool} {D : Int → Nat} (h : Good e s D) (hl : ∀ f ∈ l, inP s f = true) : ∃ D', Good e (AllF s l).2 D' ∧ (AllF s l).2.types = s.types ∧ ((∀ f ∈ l, (typeF s f).1 = 1) → (AllF s l).1.2 = 0 ∧ inP (AllF s l).2 (AllF s l).1.1 = true ∧ D' (AllF s l).1.1 = (l.map D).foldl (· &&& ·) 1) ∧ (¬ (∀ f ∈ l, (typeF s f).1 = 1) → (AllF s l).1 = (0, 100)) := by
  unfold AllF
  rw [if_pos (List.all_eq_true.2 hl)]
  obtain ⟨hc, _, ht⟩ := num_came h right_bool 1
  have hc : Came e s D (truthF s true).2 (truthF s true).1 (1, false) (normF (1, false) 1) := hc
  have ht : (truthF s true).2.types = s.types := ht
  obtain ⟨D2, G2, W2, v2⟩ := hc.out
  have ha := all_law l G2 hc.inn hc.typ fun k hk => W2.inp (hl k hk)
  obtain ⟨D3, G3, W3, h3⟩ := ha.good
  have htr : ∀ k ∈ l, typeF (truthF s true).2 k = typeF s k := fun k hk => W2.typ (hl k hk)
  have hmap : l.map D2 = l.map D := List.map_congr_left fun k hk => W2.den k (hl k hk)
  refine ⟨D3, G3, ha.types.trans ht, fun hb => ?_, fun hn => ha.bad fun hb => hn fun k hk => by rw [← htr k hk]; exact hb k hk⟩
  obtain ⟨q1, q2, q3⟩ := h3 fun k hk => by rw [htr k hk]; exact hb k hk
  refine ⟨q1, q2, ?_⟩
  rw [q3, hmap, v2, show normF (1, false) 1 = 1 by kernel_rfl]
theorem truth_grow {e : Int → Nat} {s : TPool} {D : Int → Nat} (h : Good e s D) : (∃ D', Good e (truthF s true).2 D') ∧ (truthF s true).2.l.length ≤ s.l.length + 1 := by
  obtain ⟨hc, hl, _⟩ := num_came h right_bool 1
  obtain ⟨D2, G2, _⟩ := hc.out
  exact ⟨⟨D2, G2⟩, hl⟩
theorem do_len {e : Int → Nat} {s : TPool} {D : Int → Nat} (h : Good e s D) (op : ByteArray) (l : List Int) : (DoF s op l).2.l.length ≤ s.l.length + 2 := by
  by_cases hl : l.all (inP s) = true
  · by_cases ht : typedOk s op l = true
    · exact (do_done h (List.all_eq_true.1 hl) ht).len
    · have : DoF s op l = ((0, 100), s) := by unfold DoF; rw [if_pos hl, if_neg ht]
      rw [this]; simp
  · have : DoF s op l = ((0, 101), s) := by unfold DoF; rw [if_neg hl]
    rw [this]; simp
end TmW
end Go.Proofs.YtbbajekecppioaaGreatDoor
/- The pool's All walked. -/
namespace Go.Proofs.YtbbajekecppioaaGreatDoor
open Go.RowKit Go.Mem Go.Wd Go.Tp
namespace TmW
/-- Where the loop stands. -/
structure AllAt (w wr : World) (own own' : Nat → Prop) (p : Nat) (s0 s' : TPool) (e : Int → Nat) (i : Nat) : Prop where
  pool : PoolAt wr own' p s'
  moves : PMoves own w own' wr
  good : ∃ D, Good e s' D
  len : s'.l.length ≤ s0.l.length + 1 + 2 * i
set_option maxRecDepth 100000 in
set_option maxHeartbeats 2000000 in
theorem PAll_calls {w : World} {own : Nat → Prop} {p : Nat} {s : TPool} {e : Int → Nat} {D : Int → Nat} (hE : Env w) (h : PoolAt w own p s) (hG : Good e s D) (lv : Value) (l : List Int) (hl : Sees w (Value.int .i64) lv l) (hgl : ∀ g, InBlk lv g → ¬ own g) (hn : l.length ≤ 1000000) (hroom : s.l.length ≤ 1000000) :
    Calls Tryz.prog 18 #[.pointer (some ⟨p, 0, none⟩), lv] w (TPost own w p (.tuple #[.int .i64 (AllF s l).1.1, .int .i64 (AllF s l).1.2]) (AllF s l).2) := by
  have HH := Lib.hid (has_calls h lv l hl)
  have HE := Lib.hid hE
  have HP := Lib.hid h
  have HL := Lib.hid hl
  have Hgl := Lib.hid hgl
  have HG := Lib.hid hG
  obtain ⟨VA, vc, rfl, hcell⟩ := sees_slice hl
  obtain ⟨res, hres⟩ : ∃ res, res = AllF s l := ⟨_, rfl⟩
  rw [← hres]
  have HRes := Lib.hid hres
  have HRoom := Lib.hid hroom
  clear hE h hl hgl hG hres hcell hroom
  go_enter Tryz.func18, Tryz.ntmps18
  go_wp2_with fail
  refine HH.out.mono ?_
  rintro e1 w1 ⟨rfl, hf1⟩
  have HF1 := Lib.hid hf1
  clear hf1 HH
  cases hin : l.all (inP s) with
  | false =>
    have hr := HRes.out
    unfold AllF at hr
    rw [hin, if_neg Bool.false_ne_true] at hr
    subst hr
    clear hin
    go_wp2
    go_ret2
    exact ⟨rfl, own, HP.out.frm0 HF1.out, PMoves.of0 HF1.out⟩
  | true =>
    have HR2 := Lib.hid (show res = allF (truthF s true).2 (truthF s true).1 l by rw [HRes.out]; unfold AllF; rw [hin, if_pos rfl])
    obtain ⟨Hg2, Hl2⟩ := truth_grow HG.out
    have HT := Lib.hid (truth_calls (HE.out.frm0 HF1.out) (HP.out.frm0 HF1.out) true (by have := HRoom.out; omega))
    obtain ⟨q, hq⟩ : ∃ q, q = truthF s true := ⟨_, rfl⟩
    rw [← hq] at HT HR2 Hg2 Hl2
    obtain ⟨o1, s1⟩ := q
    have HG2 := Lib.hid Hg2
    have HL2 := Lib.hid Hl2
    clear hin hq Hg2 Hl2 HRes
    go_wp2_with fail
    refine HT.out.mono ?_
    rintro e2 w2 ⟨rfl, own2, hP2, hM2⟩
    have HA := Lib.hid (show AllAt w w2 own own2 p s s1 e 0 from ⟨hP2, moves_pre HF1.out hM2, HG2.out, by have := HL2.out; simpa using this⟩)
    clear hP2 hM2 HT HG2 HL2
    go_wp2
    go_loopw [6, 19] (fun v6 v19 w' => ∃ k : Nat, k ≤ l.length ∧ v19 = .int .i64 k ∧ ∃ out sk own', v6 = .int .i64 out ∧ Hid (res = allF sk out (l.drop k)) ∧ Hid (AllAt w w' own own' p s sk e k)) (fun _ v19 _ => l.length - (intOf v19).toNat)
    case atStart => exact ⟨0, Nat.zero_le _, rfl, o1, s1, own2, rfl, HR2, HA⟩
    case round =>
      obtain ⟨k, hk, rfl, out, sk, own3, rfl, HR, HA3⟩ := hrel
      by_cases hlt : k < l.length
      · have hltI : (k : Int) < (l.length : Int) := by omega
        obtain ⟨f, hf⟩ : ∃ f, l[k]? = some f := ⟨_, List.getElem?_eq_getElem hlt⟩
        have hS := HL.out.frm HA3.out.moves.1 fun g hg _ ho => Hgl.out g hg ho
        obtain ⟨A', c', e', hcell⟩ := sees_slice hS
        cases e'
        obtain ⟨g, o, rfl, hc⟩ := hcell k f hf
        have hd : l.drop k = f :: l.drop (k + 1) := by
          rw [List.drop_eq_getElem_cons hlt, Option.some.inj ((List.getElem?_eq_getElem hlt).symm.trans hf)]
        have HR' := HR.out
        rw [hd, allF] at HR'
        obtain ⟨D3, G3⟩ := HA3.out.good
        obtain ⟨⟨D4, G4, _⟩, hl4⟩ := And.intro (do_grow G3 sLand [out, f]) (do_len G3 sLand [out, f])
        have hEr := HE.out.moves HA3.out.moves HP.out.lo
        have HD := Lib.hid (PDo_calls (hEr.frm0 (frm_alloc wr (.cells #[.int .i64 out, .int .i64 f] 3))) (HA3.out.pool.frm0 (frm_alloc wr (.cells #[.int .i64 out, .int .i64 f] 3))) G3.calm sLand (by decide) (.slice (some ⟨wr.heap.size, 0, none⟩) 2 2) [out, f] (sees_of_blk (blk_new _) rfl rfl (by decide)) (fun g hg ho => by obtain ⟨_, _, _, e⟩ := hg; cases e; exact absurd (HA3.out.pool.lt _ ho) (by omega)) (by have := HA3.out.len; have := HRoom.out; omega))
        have HG4 := Lib.hid G4
        have HL4 := Lib.hid hl4
        obtain ⟨q, hq⟩ : ∃ q, q = DoF sk sLand [out, f] := ⟨_, rfl⟩
        rw [← hq] at HD HG4 HL4 HR'
        obtain ⟨⟨o4, e4⟩, s4⟩ := q
        have HRd := Lib.hid HR'
        have Hk1 := Lib.hid (show k + 1 ≤ l.length from hlt)
        clear hS hcell hf hd HR' G3 G4 hl4 hEr hq hlt HR
        go_wp2_with fail
        refine HD.out.mono ?_
        rintro e5 w5 ⟨rfl, own5, hP5, hM5⟩
        have HP5 := Lib.hid hP5
        have HM5 := Lib.hid (HA3.out.moves.trans (moves_pre (frm_alloc wr _) hM5))
        clear hP5 hM5 HD
        by_cases he4 : e4 = 0
        · subst he4
          have HR5 := Lib.hid (HRd.out.trans (if_pos rfl))
          have HA5 := Lib.hid (show AllAt w w5 own own5 p s s4 e (k + 1) from ⟨HP5.out, HM5.out, ⟨D4, HG4.out⟩, by have := HL4.out; have := HA3.out.len; simp only at *; omega⟩)
          go_wp2
          go_roundw
          case rel => exact ⟨k + 1, Hk1.out, by first | rfl | go_num, o4, s4, own5, rfl, HR5, HA5⟩
          case measure => have := Hk1.out; simp [intOf]; omega
        · have hes : (e4 == 0) = false := by simpa using he4
          have HR5 := Lib.hid (HRd.out.trans (if_neg he4))
          clear he4
          go_wp2
          go_ret2
          exact ⟨by rw [HR5.out]; rfl, own5, by rw [HR5.out]; exact HP5.out, HM5.out⟩
      · obtain rfl : k = l.length := by omega
        have hltI : ¬ (l.length : Int) < (l.length : Int) := by omega
        have HR5 := Lib.hid (show res = ((out, 0), sk) by rw [HR.out, List.drop_length]; rfl)
        clear HR hlt hk
        go_wp2
        go_ret2
        exact ⟨by rw [HR5.out]; rfl, own3, by rw [HR5.out]; exact HA3.out.pool, HA3.out.moves⟩
end TmW
end Go.Proofs.YtbbajekecppioaaGreatDoor
/- TermAll walked. -/
namespace Go.Proofs.YtbbajekecppioaaGreatDoor
open Go.RowKit Go.Mem Go.Wd Go.Tp
namespace LawT
open TmW (frm_alloc frm_then frm_cellD frm_cell VRow PoolAt PMoves Env buildF typeX evalX TypesOk countX countL Built build_ok moves_pre New_calls inP typeF AllF PAll_calls All_law truthF)
open RfW (TreeV VarsIn IsIn KidsAt countL_mem sees_slice)
/-- Where the loop stands. -/
structure LoopAt (W w' : World) (own' : Nat → Prop) (p : Nat) (sk : TPool) (Dk : Int → Nat) (vs : List Ty) (is : List Nat) (l : List Tree) (k : Nat) (tv : Value) (ids : List Int) (want : Nat) (bools : Bool) : Prop where
  pool : PoolAt w' own' p sk
  low : ∀ b, own' b → W.heap.size ≤ b
  frm : Frm (fun _ => False) W w'
  env : Env w'
  good : TmW.Good (envOf vs is) sk Dk
  types : TypesOk vs sk
  row : Row w' 3 iI tv ids
  apart : ∀ g, tv.ownBlock = some g → ¬ own' g ∧ W.heap.size ≤ g
  len : ids.length = k
  inn : ∀ f ∈ ids, inP sk f = true
  vals : ids.map Dk = (l.take k).map (evalX vs is)
  typs : ids.map (typeF sk) = (l.take k).map fun x => (typeX vs x).1
  wantE : want = ((l.take k).map (evalX vs is)).foldl (· &&& ·) 1
  want1 : want ≤ 1
  boolsE : bools = (l.take k).all fun x => (typeX vs x).1.1 == 1
  room : sk.l.length ≤ 40 * k
  two : 2 ≤ W.heap.size
section
variable {W w' w2 : World} {own' own2 : Nat → Prop} {p : Nat} {sk s2 : TPool} {Dk D2 : Int → Nat} {vs : List Ty} {is : List Nat} {l : List Tree} {k : Nat} {tv tv2 : Value} {ids : List Int} {want : Nat} {bools : Bool}
theorem LoopAt.frm0 (h : LoopAt W w' own' p sk Dk vs is l k tv ids want bools) (hf : Frm (fun _ => False) w' w2) : LoopAt W w2 own' p sk Dk vs is l k tv ids want bools :=
  ⟨h.pool.frm0 hf, h.low, frm_then h.frm hf, h.env.frm0 hf, h.good, h.types, h.row.frm0 hf, h.apart, h.len, h.inn, h.vals, h.typs, h.wantE, h.want1, h.boolsE, h.room, h.two⟩
/-- Behind a Build: what was told of the terms before still holds. -/
structure MidAt (W w' : World) (own' : Nat → Prop) (p : Nat) (sk : TPool) (Dk : Int → Nat) (vs : List Ty) (is : List Nat) (l : List Tree) (k : Nat) (tv : Value) (ids : List Int) (want : Nat) (bools : Bool) (x : Tree) (f : Int) : Prop where
  pool : PoolAt w' own' p sk
  low : ∀ b, own' b → W.heap.size ≤ b
  frm : Frm (fun _ => False) W w'
  env : Env w'
  good : TmW.Good (envOf vs is) sk Dk
  types : TypesOk vs sk
  row : Row w' 3 iI tv ids
  apart : ∀ g, tv.ownBlock = some g → ¬ own' g ∧ W.heap.size ≤ g
  len : ids.length = k
  inn : ∀ f ∈ ids, inP sk f = true
  vals : ids.map Dk = (l.take k).map (evalX vs is)
  typs : ids.map (typeF sk) = (l.take k).map fun x => (typeX vs x).1
  wantE : want = ((l.take k).map (evalX vs is)).foldl (· &&& ·) 1
  want1 : want ≤ 1
  boolsE : bools = (l.take k).all fun x => (typeX vs x).1.1 == 1
  room : sk.l.length ≤ 40 * (k + 1)
  fin : inP sk f = true
  fty : typeF sk f = (typeX vs x).1
  fval : Dk f = evalX vs is x
  two : 2 ≤ W.heap.size
theorem MidAt.frm0 {x : Tree} {f : Int} (h : MidAt W w' own' p sk Dk vs is l k tv ids want bools x f) (hf : Frm (fun _ => False) w' w2) : MidAt W w2 own' p sk Dk vs is l k tv ids want bools x f :=
  ⟨h.pool.frm0 hf, h.low, frm_then h.frm hf, h.env.frm0 hf, h.good, h.types, h.row.frm0 hf, h.apart, h.len, h.inn, h.vals, h.typs, h.wantE, h.want1, h.boolsE, h.room, h.fin, h.fty, h.fval, h.two⟩
theorem low_frm (h : LoopAt W w' own' p sk Dk vs is l k tv ids want bools) (hM : PMoves own' w' own2 w2) : Frm (fun _ => False) W w2 := h.frm.trans hM.1 fun x hx ho => by have := h.low x ho; omega
theorem LoopAt.build {x : Tree} {f : Int} (h : LoopAt W w' own' p sk Dk vs is l k tv ids want bools) (hP : PoolAt w2 own2 p s2) (hM : PMoves own' w' own2 w2) (hB : Built vs (envOf vs is) sk Dk ((f, 0), s2) (countX x) (typeX vs x).1 (evalX vs is x)) (hc : countX x ≤ 20) : ∃ D2, MidAt W w2 own2 p s2 D2 vs is l k tv ids want bools x f := by
  obtain ⟨D2, G2, W2, v2⟩ := hB.came.out
  have hsz := hM.1.size
  refine ⟨D2, hP, fun b hb => (hM.2.1 b hb).elim (h.low b) fun hge => Nat.le_trans h.frm.size hge, low_frm h hM, TmW.Env.moves h.env hM h.pool.lo, G2, hB.types, h.row.frm hM.1 fun g hg ho => (h.apart g hg).1 ho, fun g hg => ⟨fun ho => (hM.2.1 g ho).elim (h.apart g hg).1 fun hge => by have := h.row.lt g hg; omega, (h.apart g hg).2⟩, h.len, fun f hf => W2.inp (h.inn f hf), ?_, ?_, h.wantE, h.want1, h.boolsE, ?_, hB.came.inn, hB.came.typ, v2, h.two⟩
  · rw [← h.vals]; exact List.map_congr_left fun f hf => W2.den f (h.inn f hf)
  · rw [← h.typs]; exact List.map_congr_left fun f hf => W2.typ (h.inn f hf)
  · have h1 : s2.l.length ≤ sk.l.length + 2 * countX x := hB.len
    have := h.room
    omega
theorem take_snoc {α : Type} {l : List α} {k : Nat} {x : α} (hx : l[k]? = some x) : l.take (k + 1) = l.take k ++ [x] := by rw [List.take_add_one, hx]; rfl
theorem MidAt.next {x : Tree} {f : Int} {g2 : Nat} (h : MidAt W w' own' p sk Dk vs is l k tv ids want bools x f) (hx : l[k]? = some x) (hr : Row w2 3 iI tv2 (ids ++ [f])) (hf : Frm (fun b => tv.ownBlock = some b) w' w2) (hg : tv.ownBlock = some g2 ∨ g2 = w'.heap.size) (hv : tv2.ownBlock = some g2) :
    LoopAt W w2 own' p sk Dk vs is l (k + 1) tv2 (ids ++ [f]) (want &&& evalX vs is x) (bools && ((typeX vs x).1.1 == 1)) := by
  have hlo := h.pool.lo
  have h2 : Frm (fun _ => False) W w2 := h.frm.trans hf fun y hy ho => by have := (h.apart y ho).2; omega
  have hge : W.heap.size ≤ g2 := hg.elim (fun h1 => (h.apart _ h1).2) fun h1 => by rw [h1]; exact h.frm.size
  refine ⟨h.pool.frm hf fun b hb hs => (h.apart b hs).1 hb, h.low, h2, ?_, h.good, h.types, hr, fun g hgg => ?_, by simp [h.len], fun k hk => ?_, ?_, ?_, ?_, Nat.le_trans Nat.and_le_left h.want1, ?_, h.room, h.two⟩
  · exact h.env.frm hf (fun ho => by have := (h.apart 0 ho).2; have := h.two; omega) (fun ho => by have := (h.apart 1 ho).2; have := h.two; omega)
  · rw [hv] at hgg
    cases hgg
    exact ⟨fun ho => hg.elim (fun h1 => (h.apart _ h1).1 ho) fun h1 => by have := h.pool.lt _ ho; omega, hge⟩
  · rcases List.mem_append.1 hk with hk | hk
    · exact h.inn k hk
    · obtain rfl := List.mem_singleton.1 hk; exact h.fin
  · rw [take_snoc hx, List.map_append, List.map_append, h.vals]; simp [h.fval]
  · rw [take_snoc hx, List.map_append, List.map_append, h.typs]; simp [h.fty]
  · rw [take_snoc hx, List.map_append, List.foldl_append, ← h.wantE]; rfl
  · rw [take_snoc hx, List.all_append, ← h.boolsE]; simp
end
end LawT
end Go.Proofs.YtbbajekecppioaaGreatDoor
