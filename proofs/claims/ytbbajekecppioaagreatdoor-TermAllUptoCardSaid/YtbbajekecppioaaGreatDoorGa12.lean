/- The pool's simple at two operands, walked: one theorem for each operator. (Printed by genTmS.py.) -/
import Derived.Test.YtbbajekecppioaaGreatDoorGa11
set_option linter.unusedSimpArgs false
set_option linter.unusedVariables false
namespace Go.Proofs.YtbbajekecppioaaGreatDoor
open Go.RowKit Go.Mem Go.Wd Go.Tp
namespace TmW
inductive Cls | meet | join | plus | minus | xor | shift | mul | tt | ff | other
 deriving DecidableEq
def clsL : List (ByteArray × Cls) := [(⟨#[38, 38]⟩, .meet), (⟨#[38]⟩, .meet), (⟨#[124, 124]⟩, .join), (⟨#[124]⟩, .join), (⟨#[43]⟩, .plus), (⟨#[45]⟩, .minus), (⟨#[94]⟩, .xor), (⟨#[60, 60]⟩, .shift), (⟨#[62, 62]⟩, .shift), (⟨#[42]⟩, .mul), (⟨#[47]⟩, .mul), (⟨#[61, 61]⟩, .tt), (⟨#[60, 61]⟩, .tt), (⟨#[62, 61]⟩, .tt), (⟨#[33, 61]⟩, .ff), (⟨#[60]⟩, .ff), (⟨#[62]⟩, .ff)]
def clsF (op : ByteArray) : Cls := (mget clsL op).getD .other
def simple2F (s : TPool) (op : ByteArray) (a b : Int) : (Int × Bool) × TPool :=
 match clsF op with
 | .meet => (meetF s a b, s)
 | .join => (joinF s a b, s)
 | .plus => if isNumF s b 0 = true then ((a, true), s) else if isNumF s a 0 = true then ((b, true), s) else ((0, false), s)
 | .minus => if isNumF s b 0 = true then ((a, true), s) else if (a == b) = true then (((numF s (typeF s a) 0).1, true), (numF s (typeF s a) 0).2) else ((0, false), s)
 | .xor => if isNumF s b 0 = true then ((a, true), s) else if isNumF s a 0 = true then ((b, true), s) else if (a == b) = true then (((numF s (typeF s a) 0).1, true), (numF s (typeF s a) 0).2) else ((0, false), s)
 | .shift => if isNumF s b 0 = true then ((a, true), s) else ((0, false), s)
 | .mul => if isNumF s b 1 = true then ((a, true), s) else if isNumF s a 0 = true ∨ isNumF s b 0 = true then (((numF s (typeF s a) 0).1, true), (numF s (typeF s a) 0).2) else ((0, false), s)
 | .tt => (((truthF s true).1, a == b), (truthF s true).2)
 | .ff => (((truthF s false).1, a == b), (truthF s false).2)
 | .other => ((0, false), s)
theorem num_lit {w : World} {own : Nat → Prop} {p : Nat} {s : TPool} (hE : Env w) (h : PoolAt w own p s) (t : Ty) (v : Nat) (c : Int) (hc : ((v : Nat) : Int) = c) (hv : v < 2 ^ 64) (hroom : s.l.length < 4294967296) :
  Calls Tryz.prog 39 #[.pointer (some ⟨p, 0, none⟩), .agg #[.int .i64 t.1, .bool t.2], .int .u64 c] w (TPost own w p (.int .i64 (numF s t v).1) (numF s t v).2) := by
 subst hc; exact num_calls hE h t v hv hroom
theorem TPost.same {own : Nat → Prop} {w w' : World} {p : Nat} {s : TPool} {r : Value} {e : Ending} (h : PoolAt w own p s) (he : e = .returned r) (hf : Frm (fun _ => False) w w') : TPost own w p r s e w' :=
 ⟨he, own, h.frm0 hf, .of0 (hf)⟩
set_option maxRecDepth 100000 in
set_option maxHeartbeats 2000000 in
theorem simpleAA {w : World} {own : Nat → Prop} {p : Nat} {s : TPool} (hE : Env w) (h : PoolAt w own p s) (op : ByteArray) (a b : Int) (lv : Value) (hl : Sees w (Value.int .i64) lv [a, b]) (ha : inP s a = true) (hroom : s.l.length < 4294967296) (hop : op = ⟨#[38, 38]⟩) : Calls Tryz.prog 43 #[.pointer (some ⟨p, 0, none⟩), .string op, lv] w (TPost own w p (.tuple #[.int .i64 (simple2F s op a b).1.1, .bool (simple2F s op a b).1.2]) (simple2F s op a b).2) := by
 have H0 := Lib.hid (fun f w1 (hf : Frm (fun _ => False) w w1) => isNum_lit (hE.frm0 hf) (h.frm0 hf) f 0 0 rfl (by decide))
 have H1 := Lib.hid (fun f w1 (hf : Frm (fun _ => False) w w1) => isNum_lit (hE.frm0 hf) (h.frm0 hf) f 1 1 rfl (by decide))
 have HME := Lib.hid (fun w1 (hf : Frm (fun _ => False) w w1) => meet_calls (hE.frm0 hf) (h.frm0 hf) a b)
 have HJO := Lib.hid (fun w1 (hf : Frm (fun _ => False) w w1) => join_calls (hE.frm0 hf) (h.frm0 hf) a b)
 have HT := Lib.hid (fun x w1 (hf : Frm (fun _ => False) w w1) => truth_calls (hE.frm0 hf) (h.frm0 hf) x hroom)
 have HNU := Lib.hid (fun t w1 (hf : Frm (fun _ => False) w w1) => num_lit (hE.frm0 hf) (h.frm0 hf) t 0 0 rfl (by decide) hroom)
 have HP := Lib.hid h
 have HF := Lib.hid (Frm.refl (fun _ => False) w)
 obtain ⟨n, hn⟩ := nth_some (l := s.l) (f := a) (by simpa [inP] using ha)
 obtain ⟨l0, l1⟩ := nth_lt hn
 have ht : typeF s a = n.t := by unfold typeF; rw [hn]
 have HN := Lib.hid hn
 rcases hl with ⟨_, h⟩ | ⟨g, o, cap, rfl, hc1, hc2, hc⟩
 ·cases h
 have c0 : w.cell? ⟨g, o, none⟩ = _ := hc 0 a rfl
 have c1 := hc 1 b rfl
 clear hE h ha hn hc hc1 hc2
 have hcl : clsF op = .meet := by subst hop; kernel_rfl
 have d0 : (op.toList == [105, 116, 101]) = false := by subst hop; kernel_rfl
 have d1 : (op.toList == [38, 38]) = true := by subst hop; kernel_rfl
 clear hop
 have hs : Hid (simple2F s op a b = (meetF s a b, s)) := Lib.hid (by unfold simple2F; rw [hcl])
 clear hcl
 go_enter Tryz.func43, Tryz.ntmps43
 go_wp2
 go_quiet (fail)
 obtain ⟨w1, hw1⟩ : ∃ w1, w1 = w.drewN nq := ⟨_, rfl⟩
 rw [← hw1]
 have HF := Lib.hid (show Frm (fun _ => False) w w1 by rw [hw1]; exact HF.out.drewN _)
 clear hw1
 go_wp2_with fail
 refine (HME.out _ HF.out).mono ?_
 rintro e w2 ⟨rfl, hf2⟩
 have HF := Lib.hid (frm_then HF.out hf2)
 clear hf2
 go_wp2
 go_ret2
 rw [hs.out]
 exact TPost.same HP.out rfl HF.out
set_option maxRecDepth 100000 in
set_option maxHeartbeats 2000000 in
theorem simpleA {w : World} {own : Nat → Prop} {p : Nat} {s : TPool} (hE : Env w) (h : PoolAt w own p s) (op : ByteArray) (a b : Int) (lv : Value) (hl : Sees w (Value.int .i64) lv [a, b]) (ha : inP s a = true) (hroom : s.l.length < 4294967296) (hop : op = ⟨#[38]⟩) : Calls Tryz.prog 43 #[.pointer (some ⟨p, 0, none⟩), .string op, lv] w (TPost own w p (.tuple #[.int .i64 (simple2F s op a b).1.1, .bool (simple2F s op a b).1.2]) (simple2F s op a b).2) := by
 have H0 := Lib.hid (fun f w1 (hf : Frm (fun _ => False) w w1) => isNum_lit (hE.frm0 hf) (h.frm0 hf) f 0 0 rfl (by decide))
 have H1 := Lib.hid (fun f w1 (hf : Frm (fun _ => False) w w1) => isNum_lit (hE.frm0 hf) (h.frm0 hf) f 1 1 rfl (by decide))
 have HME := Lib.hid (fun w1 (hf : Frm (fun _ => False) w w1) => meet_calls (hE.frm0 hf) (h.frm0 hf) a b)
 have HJO := Lib.hid (fun w1 (hf : Frm (fun _ => False) w w1) => join_calls (hE.frm0 hf) (h.frm0 hf) a b)
 have HT := Lib.hid (fun x w1 (hf : Frm (fun _ => False) w w1) => truth_calls (hE.frm0 hf) (h.frm0 hf) x hroom)
 have HNU := Lib.hid (fun t w1 (hf : Frm (fun _ => False) w w1) => num_lit (hE.frm0 hf) (h.frm0 hf) t 0 0 rfl (by decide) hroom)
 have HP := Lib.hid h
 have HF := Lib.hid (Frm.refl (fun _ => False) w)
 obtain ⟨n, hn⟩ := nth_some (l := s.l) (f := a) (by simpa [inP] using ha)
 obtain ⟨l0, l1⟩ := nth_lt hn
 have ht : typeF s a = n.t := by unfold typeF; rw [hn]
 have HN := Lib.hid hn
 rcases hl with ⟨_, h⟩ | ⟨g, o, cap, rfl, hc1, hc2, hc⟩
 ·cases h
 have c0 : w.cell? ⟨g, o, none⟩ = _ := hc 0 a rfl
 have c1 := hc 1 b rfl
 clear hE h ha hn hc hc1 hc2
 have hcl : clsF op = .meet := by subst hop; kernel_rfl
 have d0 : (op.toList == [105, 116, 101]) = false := by subst hop; kernel_rfl
 have d1 : (op.toList == [38, 38]) = false := by subst hop; kernel_rfl
 have d2 : (op.toList == [38]) = true := by subst hop; kernel_rfl
 clear hop
 have hs : Hid (simple2F s op a b = (meetF s a b, s)) := Lib.hid (by unfold simple2F; rw [hcl])
 clear hcl
 go_enter Tryz.func43, Tryz.ntmps43
 go_wp2
 go_quiet (fail)
 obtain ⟨w1, hw1⟩ : ∃ w1, w1 = w.drewN nq := ⟨_, rfl⟩
 rw [← hw1]
 have HF := Lib.hid (show Frm (fun _ => False) w w1 by rw [hw1]; exact HF.out.drewN _)
 clear hw1
 go_wp2_with fail
 refine (HME.out _ HF.out).mono ?_
 rintro e w2 ⟨rfl, hf2⟩
 have HF := Lib.hid (frm_then HF.out hf2)
 clear hf2
 go_wp2
 go_ret2
 rw [hs.out]
 exact TPost.same HP.out rfl HF.out
set_option maxRecDepth 100000 in
set_option maxHeartbeats 2000000 in
theorem simpleOO {w : World} {own : Nat → Prop} {p : Nat} {s : TPool} (hE : Env w) (h : PoolAt w own p s) (op : ByteArray) (a b : Int) (lv : Value) (hl : Sees w (Value.int .i64) lv [a, b]) (ha : inP s a = true) (hroom : s.l.length < 4294967296) (hop : op = ⟨#[124, 124]⟩) : Calls Tryz.prog 43 #[.pointer (some ⟨p, 0, none⟩), .string op, lv] w (TPost own w p (.tuple #[.int .i64 (simple2F s op a b).1.1, .bool (simple2F s op a b).1.2]) (simple2F s op a b).2) := by
 have H0 := Lib.hid (fun f w1 (hf : Frm (fun _ => False) w w1) => isNum_lit (hE.frm0 hf) (h.frm0 hf) f 0 0 rfl (by decide))
 have H1 := Lib.hid (fun f w1 (hf : Frm (fun _ => False) w w1) => isNum_lit (hE.frm0 hf) (h.frm0 hf) f 1 1 rfl (by decide))
 have HME := Lib.hid (fun w1 (hf : Frm (fun _ => False) w w1) => meet_calls (hE.frm0 hf) (h.frm0 hf) a b)
 have HJO := Lib.hid (fun w1 (hf : Frm (fun _ => False) w w1) => join_calls (hE.frm0 hf) (h.frm0 hf) a b)
 have HT := Lib.hid (fun x w1 (hf : Frm (fun _ => False) w w1) => truth_calls (hE.frm0 hf) (h.frm0 hf) x hroom)
 have HNU := Lib.hid (fun t w1 (hf : Frm (fun _ => False) w w1) => num_lit (hE.frm0 hf) (h.frm0 hf) t 0 0 rfl (by decide) hroom)
 have HP := Lib.hid h
 have HF := Lib.hid (Frm.refl (fun _ => False) w)
 obtain ⟨n, hn⟩ := nth_some (l := s.l) (f := a) (by simpa [inP] using ha)
 obtain ⟨l0, l1⟩ := nth_lt hn
 have ht : typeF s a = n.t := by unfold typeF; rw [hn]
 have HN := Lib.hid hn
 rcases hl with ⟨_, h⟩ | ⟨g, o, cap, rfl, hc1, hc2, hc⟩
 ·cases h
 have c0 : w.cell? ⟨g, o, none⟩ = _ := hc 0 a rfl
 have c1 := hc 1 b rfl
 clear hE h ha hn hc hc1 hc2
 have hcl : clsF op = .join := by subst hop; kernel_rfl
 have d0 : (op.toList == [105, 116, 101]) = false := by subst hop; kernel_rfl
 have d1 : (op.toList == [38, 38]) = false := by subst hop; kernel_rfl
 have d2 : (op.toList == [38]) = false := by subst hop; kernel_rfl
 have d3 : (op.toList == [124, 124]) = true := by subst hop; kernel_rfl
 clear hop
 have hs : Hid (simple2F s op a b = (joinF s a b, s)) := Lib.hid (by unfold simple2F; rw [hcl])
 clear hcl
 go_enter Tryz.func43, Tryz.ntmps43
 go_wp2
 go_quiet (fail)
 obtain ⟨w1, hw1⟩ : ∃ w1, w1 = w.drewN nq := ⟨_, rfl⟩
 rw [← hw1]
 have HF := Lib.hid (show Frm (fun _ => False) w w1 by rw [hw1]; exact HF.out.drewN _)
 clear hw1
 go_wp2_with fail
 refine (HJO.out _ HF.out).mono ?_
 rintro e w2 ⟨rfl, hf2⟩
 have HF := Lib.hid (frm_then HF.out hf2)
 clear hf2
 go_wp2
 go_ret2
 rw [hs.out]
 exact TPost.same HP.out rfl HF.out
set_option maxRecDepth 100000 in
set_option maxHeartbeats 2000000 in
theorem simpleO {w : World} {own : Nat → Prop} {p : Nat} {s : TPool} (hE : Env w) (h : PoolAt w own p s) (op : ByteArray) (a b : Int) (lv : Value) (hl : Sees w (Value.int .i64) lv [a, b]) (ha : inP s a = true) (hroom : s.l.length < 4294967296) (hop : op = ⟨#[124]⟩) : Calls Tryz.prog 43 #[.pointer (some ⟨p, 0, none⟩), .string op, lv] w (TPost own w p (.tuple #[.int .i64 (simple2F s op a b).1.1, .bool (simple2F s op a b).1.2]) (simple2F s op a b).2) := by
 have H0 := Lib.hid (fun f w1 (hf : Frm (fun _ => False) w w1) => isNum_lit (hE.frm0 hf) (h.frm0 hf) f 0 0 rfl (by decide))
 have H1 := Lib.hid (fun f w1 (hf : Frm (fun _ => False) w w1) => isNum_lit (hE.frm0 hf) (h.frm0 hf) f 1 1 rfl (by decide))
 have HME := Lib.hid (fun w1 (hf : Frm (fun _ => False) w w1) => meet_calls (hE.frm0 hf) (h.frm0 hf) a b)
 have HJO := Lib.hid (fun w1 (hf : Frm (fun _ => False) w w1) => join_calls (hE.frm0 hf) (h.frm0 hf) a b)
 have HT := Lib.hid (fun x w1 (hf : Frm (fun _ => False) w w1) => truth_calls (hE.frm0 hf) (h.frm0 hf) x hroom)
 have HNU := Lib.hid (fun t w1 (hf : Frm (fun _ => False) w w1) => num_lit (hE.frm0 hf) (h.frm0 hf) t 0 0 rfl (by decide) hroom)
 have HP := Lib.hid h
 have HF := Lib.hid (Frm.refl (fun _ => False) w)
 obtain ⟨n, hn⟩ := nth_some (l := s.l) (f := a) (by simpa [inP] using ha)
 obtain ⟨l0, l1⟩ := nth_lt hn
 have ht : typeF s a = n.t := by unfold typeF; rw [hn]
 have HN := Lib.hid hn
 rcases hl with ⟨_, h⟩ | ⟨g, o, cap, rfl, hc1, hc2, hc⟩
 ·cases h
 have c0 : w.cell? ⟨g, o, none⟩ = _ := hc 0 a rfl
 have c1 := hc 1 b rfl
 clear hE h ha hn hc hc1 hc2
 have hcl : clsF op = .join := by subst hop; kernel_rfl
 have d0 : (op.toList == [105, 116, 101]) = false := by subst hop; kernel_rfl
 have d1 : (op.toList == [38, 38]) = false := by subst hop; kernel_rfl
 have d2 : (op.toList == [38]) = false := by subst hop; kernel_rfl
 have d3 : (op.toList == [124, 124]) = false := by subst hop; kernel_rfl
 have d4 : (op.toList == [124]) = true := by subst hop; kernel_rfl
 clear hop
 have hs : Hid (simple2F s op a b = (joinF s a b, s)) := Lib.hid (by unfold simple2F; rw [hcl])
 clear hcl
 go_enter Tryz.func43, Tryz.ntmps43
 go_wp2
 go_quiet (fail)
 obtain ⟨w1, hw1⟩ : ∃ w1, w1 = w.drewN nq := ⟨_, rfl⟩
 rw [← hw1]
 have HF := Lib.hid (show Frm (fun _ => False) w w1 by rw [hw1]; exact HF.out.drewN _)
 clear hw1
 go_wp2_with fail
 refine (HJO.out _ HF.out).mono ?_
 rintro e w2 ⟨rfl, hf2⟩
 have HF := Lib.hid (frm_then HF.out hf2)
 clear hf2
 go_wp2
 go_ret2
 rw [hs.out]
 exact TPost.same HP.out rfl HF.out
set_option maxRecDepth 100000 in
set_option maxHeartbeats 2000000 in
theorem simpleAdd {w : World} {own : Nat → Prop} {p : Nat} {s : TPool} (hE : Env w) (h : PoolAt w own p s) (op : ByteArray) (a b : Int) (lv : Value) (hl : Sees w (Value.int .i64) lv [a, b]) (ha : inP s a = true) (hroom : s.l.length < 4294967296) (hop : op = ⟨#[43]⟩) : Calls Tryz.prog 43 #[.pointer (some ⟨p, 0, none⟩), .string op, lv] w (TPost own w p (.tuple #[.int .i64 (simple2F s op a b).1.1, .bool (simple2F s op a b).1.2]) (simple2F s op a b).2) := by
 have H0 := Lib.hid (fun f w1 (hf : Frm (fun _ => False) w w1) => isNum_lit (hE.frm0 hf) (h.frm0 hf) f 0 0 rfl (by decide))
 have H1 := Lib.hid (fun f w1 (hf : Frm (fun _ => False) w w1) => isNum_lit (hE.frm0 hf) (h.frm0 hf) f 1 1 rfl (by decide))
 have HME := Lib.hid (fun w1 (hf : Frm (fun _ => False) w w1) => meet_calls (hE.frm0 hf) (h.frm0 hf) a b)
 have HJO := Lib.hid (fun w1 (hf : Frm (fun _ => False) w w1) => join_calls (hE.frm0 hf) (h.frm0 hf) a b)
 have HT := Lib.hid (fun x w1 (hf : Frm (fun _ => False) w w1) => truth_calls (hE.frm0 hf) (h.frm0 hf) x hroom)
 have HNU := Lib.hid (fun t w1 (hf : Frm (fun _ => False) w w1) => num_lit (hE.frm0 hf) (h.frm0 hf) t 0 0 rfl (by decide) hroom)
 have HP := Lib.hid h
 have HF := Lib.hid (Frm.refl (fun _ => False) w)
 obtain ⟨n, hn⟩ := nth_some (l := s.l) (f := a) (by simpa [inP] using ha)
 obtain ⟨l0, l1⟩ := nth_lt hn
 have ht : typeF s a = n.t := by unfold typeF; rw [hn]
 have HN := Lib.hid hn
 rcases hl with ⟨_, h⟩ | ⟨g, o, cap, rfl, hc1, hc2, hc⟩
 ·cases h
 have c0 : w.cell? ⟨g, o, none⟩ = _ := hc 0 a rfl
 have c1 := hc 1 b rfl
 clear hE h ha hn hc hc1 hc2
 have hcl : clsF op = .plus := by subst hop; kernel_rfl
 have d0 : (op.toList == [105, 116, 101]) = false := by subst hop; kernel_rfl
 have d1 : (op.toList == [38, 38]) = false := by subst hop; kernel_rfl
 have d2 : (op.toList == [38]) = false := by subst hop; kernel_rfl
 have d3 : (op.toList == [124, 124]) = false := by subst hop; kernel_rfl
 have d4 : (op.toList == [124]) = false := by subst hop; kernel_rfl
 have d5 : (op.toList == [43]) = true := by subst hop; kernel_rfl
 have d6 : (op.toList == [45]) = false := by subst hop; kernel_rfl
 have d7 : (op.toList == [94]) = false := by subst hop; kernel_rfl
 have d8 : (op.toList == [60, 60]) = false := by subst hop; kernel_rfl
 have d9 : (op.toList == [62, 62]) = false := by subst hop; kernel_rfl
 have z0 : 0 < op.size := by subst hop; decide
 have z1 : (((op[0]'z0).toNat : Int) != 60) = true := by subst hop; kernel_rfl
 have z2 : (((op[0]'z0).toNat : Int) != 62) = true := by subst hop; kernel_rfl
 clear hop
 have hs : Hid (simple2F s op a b = _) := Lib.hid (by unfold simple2F; rw [hcl])
 clear hcl
 go_enter Tryz.func43, Tryz.ntmps43
 go_wp2
 go_quiet (fail)
 obtain ⟨w1, hw1⟩ : ∃ w1, w1 = w.drewN nq := ⟨_, rfl⟩
 rw [← hw1]
 have HF := Lib.hid (show Frm (fun _ => False) w w1 by rw [hw1]; exact HF.out.drewN _)
 clear hw1
 go_wp2_with (go_at_call 74; first | ((with_reducible refine (H0.out _ _ HF.out).mono ?_); rintro e w' ⟨rfl, hf⟩; have HF := Lib.hid (frm_then HF.out hf); clear hf) | ((with_reducible refine (H1.out _ _ HF.out).mono ?_); rintro e w' ⟨rfl, hf⟩; have HF := Lib.hid (frm_then HF.out hf); clear hf))
 all_goals go_ret2
 all_goals
  rw [hs.out]
  simp only [*, if_true, if_false, Bool.false_eq_true]
  exact TPost.same HP.out rfl HF.out
set_option maxRecDepth 100000 in
set_option maxHeartbeats 2000000 in
theorem simpleSub {w : World} {own : Nat → Prop} {p : Nat} {s : TPool} (hE : Env w) (h : PoolAt w own p s) (op : ByteArray) (a b : Int) (lv : Value) (hl : Sees w (Value.int .i64) lv [a, b]) (ha : inP s a = true) (hroom : s.l.length < 4294967296) (hop : op = ⟨#[45]⟩) : Calls Tryz.prog 43 #[.pointer (some ⟨p, 0, none⟩), .string op, lv] w (TPost own w p (.tuple #[.int .i64 (simple2F s op a b).1.1, .bool (simple2F s op a b).1.2]) (simple2F s op a b).2) := by
 have H0 := Lib.hid (fun f w1 (hf : Frm (fun _ => False) w w1) => isNum_lit (hE.frm0 hf) (h.frm0 hf) f 0 0 rfl (by decide))
 have H1 := Lib.hid (fun f w1 (hf : Frm (fun _ => False) w w1) => isNum_lit (hE.frm0 hf) (h.frm0 hf) f 1 1 rfl (by decide))
 have HME := Lib.hid (fun w1 (hf : Frm (fun _ => False) w w1) => meet_calls (hE.frm0 hf) (h.frm0 hf) a b)
 have HJO := Lib.hid (fun w1 (hf : Frm (fun _ => False) w w1) => join_calls (hE.frm0 hf) (h.frm0 hf) a b)
 have HT := Lib.hid (fun x w1 (hf : Frm (fun _ => False) w w1) => truth_calls (hE.frm0 hf) (h.frm0 hf) x hroom)
 have HNU := Lib.hid (fun t w1 (hf : Frm (fun _ => False) w w1) => num_lit (hE.frm0 hf) (h.frm0 hf) t 0 0 rfl (by decide) hroom)
 have HP := Lib.hid h
 have HF := Lib.hid (Frm.refl (fun _ => False) w)
 obtain ⟨n, hn⟩ := nth_some (l := s.l) (f := a) (by simpa [inP] using ha)
 obtain ⟨l0, l1⟩ := nth_lt hn
 have ht : typeF s a = n.t := by unfold typeF; rw [hn]
 have HN := Lib.hid hn
 rcases hl with ⟨_, h⟩ | ⟨g, o, cap, rfl, hc1, hc2, hc⟩
 ·cases h
 have c0 : w.cell? ⟨g, o, none⟩ = _ := hc 0 a rfl
 have c1 := hc 1 b rfl
 clear hE h ha hn hc hc1 hc2
 have hcl : clsF op = .minus := by subst hop; kernel_rfl
 have d0 : (op.toList == [105, 116, 101]) = false := by subst hop; kernel_rfl
 have d1 : (op.toList == [38, 38]) = false := by subst hop; kernel_rfl
 have d2 : (op.toList == [38]) = false := by subst hop; kernel_rfl
 have d3 : (op.toList == [124, 124]) = false := by subst hop; kernel_rfl
 have d4 : (op.toList == [124]) = false := by subst hop; kernel_rfl
 have d5 : (op.toList == [43]) = false := by subst hop; kernel_rfl
 have d6 : (op.toList == [45]) = true := by subst hop; kernel_rfl
 have d7 : (op.toList == [94]) = false := by subst hop; kernel_rfl
 have d8 : (op.toList == [60, 60]) = false := by subst hop; kernel_rfl
 have d9 : (op.toList == [62, 62]) = false := by subst hop; kernel_rfl
 have z0 : 0 < op.size := by subst hop; decide
 have z1 : (((op[0]'z0).toNat : Int) != 60) = true := by subst hop; kernel_rfl
 have z2 : (((op[0]'z0).toNat : Int) != 62) = true := by subst hop; kernel_rfl
 clear hop
 by_cases hab : a = b
 ·have dab : (a == b) = true := by simp [hab]
  cases h0 : isNumF s b 0
  ·have hs := Lib.hid (show simple2F s op a b = (((numF s (typeF s a) 0).1, true), (numF s (typeF s a) 0).2) from by unfold simple2F; rw [hcl]; simp only [h0, Bool.false_eq_true, if_false]; rw [dab]; rfl)
   have HB := Lib.hid (fun w1 hf => H0.out b w1 hf)
   rw [h0] at HB
   clear hcl h0 hab
   rw [ht] at hs
   go_enter Tryz.func43, Tryz.ntmps43
   go_wp2
   go_quiet (fail)
   obtain ⟨w1, hw1⟩ : ∃ w1, w1 = w.drewN nq := ⟨_, rfl⟩
   rw [← hw1]
   have HF := Lib.hid (show Frm (fun _ => False) w w1 by rw [hw1]; exact HF.out.drewN _)
   clear hw1
   go_wp2_with fail
   refine (HB.out _ HF.out).mono ?_
   rintro e w' ⟨rfl, hf⟩
   have HF := Lib.hid (frm_then HF.out hf)
   clear hf
   obtain ⟨gp, cp, kv, p0, _, _, _, e0, e1, e2, e3, e4, e5⟩ := (HP.out.frm0 HF.out).node HN.out
   clear e0 e3 e4 e5
   go_wp2_with fail
   refine (HNU.out n.t _ HF.out).mono ?_
   rintro e w3 ⟨rfl, own3, hP3, hM3⟩
   have HP3 := Lib.hid hP3
   have HM3 := Lib.hid hM3
   clear hP3 hM3
   go_wp2
   go_ret2
   rw [hs.out]
   exact ⟨rfl, own3, HP3.out, moves_pre HF.out HM3.out⟩
  ·have hs := Lib.hid (show simple2F s op a b = ((a, true), s) from by unfold simple2F; rw [hcl]; simp only [h0, if_true])
   have HB := Lib.hid (fun w1 hf => H0.out b w1 hf)
   rw [h0] at HB
   clear hcl h0 hab dab
   go_enter Tryz.func43, Tryz.ntmps43
   go_wp2
   go_quiet (fail)
   obtain ⟨w1, hw1⟩ : ∃ w1, w1 = w.drewN nq := ⟨_, rfl⟩
   rw [← hw1]
   have HF := Lib.hid (show Frm (fun _ => False) w w1 by rw [hw1]; exact HF.out.drewN _)
   clear hw1
   go_wp2_with (go_at_call 74; refine (HB.out _ HF.out).mono ?_; rintro e w' ⟨rfl, hf⟩; have HF := Lib.hid (frm_then HF.out hf); clear hf)
   go_ret2
   rw [hs.out]
   exact TPost.same HP.out rfl HF.out
 ·have dab : (a == b) = false := by simp [hab]
  cases h0 : isNumF s b 0
  ·have hs := Lib.hid (show simple2F s op a b = ((0, false), s) from by unfold simple2F; rw [hcl]; simp only [h0, Bool.false_eq_true, if_false]; rw [dab]; rfl)
   have HB := Lib.hid (fun w1 hf => H0.out b w1 hf)
   rw [h0] at HB
   clear hcl h0 hab
   go_enter Tryz.func43, Tryz.ntmps43
   go_wp2
   go_quiet (fail)
   obtain ⟨w1, hw1⟩ : ∃ w1, w1 = w.drewN nq := ⟨_, rfl⟩
   rw [← hw1]
   have HF := Lib.hid (show Frm (fun _ => False) w w1 by rw [hw1]; exact HF.out.drewN _)
   clear hw1
   go_wp2_with fail
   refine (HB.out _ HF.out).mono ?_
   rintro e w' ⟨rfl, hf⟩
   have HF := Lib.hid (frm_then HF.out hf)
   clear hf
   go_wp2
   go_ret2
   rw [hs.out]
   exact TPost.same HP.out rfl HF.out
  ·have hs := Lib.hid (show simple2F s op a b = ((a, true), s) from by unfold simple2F; rw [hcl]; simp only [h0, if_true])
   have HB := Lib.hid (fun w1 hf => H0.out b w1 hf)
   rw [h0] at HB
   clear hcl h0 hab dab
   go_enter Tryz.func43, Tryz.ntmps43
   go_wp2
   go_quiet (fail)
   obtain ⟨w1, hw1⟩ : ∃ w1, w1 = w.drewN nq := ⟨_, rfl⟩
   rw [← hw1]
   have HF := Lib.hid (show Frm (fun _ => False) w w1 by rw [hw1]; exact HF.out.drewN _)
   clear hw1
   go_wp2_with (go_at_call 74; refine (HB.out _ HF.out).mono ?_; rintro e w' ⟨rfl, hf⟩; have HF := Lib.hid (frm_then HF.out hf); clear hf)
   go_ret2
   rw [hs.out]
   exact TPost.same HP.out rfl HF.out
set_option maxRecDepth 100000 in
set_option maxHeartbeats 2000000 in
theorem simpleXor {w : World} {own : Nat → Prop} {p : Nat} {s : TPool} (hE : Env w) (h : PoolAt w own p s) (op : ByteArray) (a b : Int) (lv : Value) (hl : Sees w (Value.int .i64) lv [a, b]) (ha : inP s a = true) (hroom : s.l.length < 4294967296) (hop : op = ⟨#[94]⟩) : Calls Tryz.prog 43 #[.pointer (some ⟨p, 0, none⟩), .string op, lv] w (TPost own w p (.tuple #[.int .i64 (simple2F s op a b).1.1, .bool (simple2F s op a b).1.2]) (simple2F s op a b).2) := by
 have H0 := Lib.hid (fun f w1 (hf : Frm (fun _ => False) w w1) => isNum_lit (hE.frm0 hf) (h.frm0 hf) f 0 0 rfl (by decide))
 have H1 := Lib.hid (fun f w1 (hf : Frm (fun _ => False) w w1) => isNum_lit (hE.frm0 hf) (h.frm0 hf) f 1 1 rfl (by decide))
 have HME := Lib.hid (fun w1 (hf : Frm (fun _ => False) w w1) => meet_calls (hE.frm0 hf) (h.frm0 hf) a b)
 have HJO := Lib.hid (fun w1 (hf : Frm (fun _ => False) w w1) => join_calls (hE.frm0 hf) (h.frm0 hf) a b)
 have HT := Lib.hid (fun x w1 (hf : Frm (fun _ => False) w w1) => truth_calls (hE.frm0 hf) (h.frm0 hf) x hroom)
 have HNU := Lib.hid (fun t w1 (hf : Frm (fun _ => False) w w1) => num_lit (hE.frm0 hf) (h.frm0 hf) t 0 0 rfl (by decide) hroom)
 have HP := Lib.hid h
 have HF := Lib.hid (Frm.refl (fun _ => False) w)
 obtain ⟨n, hn⟩ := nth_some (l := s.l) (f := a) (by simpa [inP] using ha)
 obtain ⟨l0, l1⟩ := nth_lt hn
 have ht : typeF s a = n.t := by unfold typeF; rw [hn]
 have HN := Lib.hid hn
 rcases hl with ⟨_, h⟩ | ⟨g, o, cap, rfl, hc1, hc2, hc⟩
 ·cases h
 have c0 : w.cell? ⟨g, o, none⟩ = _ := hc 0 a rfl
 have c1 := hc 1 b rfl
 clear hE h ha hn hc hc1 hc2
 have hcl : clsF op = .xor := by subst hop; kernel_rfl
 have d0 : (op.toList == [105, 116, 101]) = false := by subst hop; kernel_rfl
 have d1 : (op.toList == [38, 38]) = false := by subst hop; kernel_rfl
 have d2 : (op.toList == [38]) = false := by subst hop; kernel_rfl
 have d3 : (op.toList == [124, 124]) = false := by subst hop; kernel_rfl
 have d4 : (op.toList == [124]) = false := by subst hop; kernel_rfl
 have d5 : (op.toList == [43]) = false := by subst hop; kernel_rfl
 have d6 : (op.toList == [45]) = false := by subst hop; kernel_rfl
 have d7 : (op.toList == [94]) = true := by subst hop; kernel_rfl
 have d8 : (op.toList == [60, 60]) = false := by subst hop; kernel_rfl
 have d9 : (op.toList == [62, 62]) = false := by subst hop; kernel_rfl
 have z0 : 0 < op.size := by subst hop; decide
 have z1 : (((op[0]'z0).toNat : Int) != 60) = true := by subst hop; kernel_rfl
 have z2 : (((op[0]'z0).toNat : Int) != 62) = true := by subst hop; kernel_rfl
 clear hop
 by_cases hab : a = b
 ·have dab : (a == b) = true := by simp [hab]
  cases h0 : isNumF s b 0
  ·cases h1 : isNumF s a 0
   ·have hs := Lib.hid (show simple2F s op a b = (((numF s (typeF s a) 0).1, true), (numF s (typeF s a) 0).2) from by unfold simple2F; rw [hcl]; simp only [h0, h1, Bool.false_eq_true, if_false]; rw [dab]; rfl)
    have HB := Lib.hid (fun w1 hf => H0.out b w1 hf)
    rw [h0] at HB
    have HA := Lib.hid (fun w1 hf => H0.out a w1 hf)
    rw [h1] at HA
    clear hcl h0 h1 hab
    rw [ht] at hs
    go_enter Tryz.func43, Tryz.ntmps43
    go_wp2
    go_quiet (fail)
    obtain ⟨w1, hw1⟩ : ∃ w1, w1 = w.drewN nq := ⟨_, rfl⟩
    rw [← hw1]
    have HF := Lib.hid (show Frm (fun _ => False) w w1 by rw [hw1]; exact HF.out.drewN _)
    clear hw1
    go_wp2_with fail
    refine (HB.out _ HF.out).mono ?_
    rintro e w' ⟨rfl, hf⟩
    have HF := Lib.hid (frm_then HF.out hf)
    clear hf
    go_wp2_with fail
    refine (HA.out _ HF.out).mono ?_
    rintro e w' ⟨rfl, hf⟩
    have HF := Lib.hid (frm_then HF.out hf)
    clear hf
    obtain ⟨gp, cp, kv, p0, _, _, _, e0, e1, e2, e3, e4, e5⟩ := (HP.out.frm0 HF.out).node HN.out
    clear e0 e3 e4 e5
    go_wp2_with fail
    refine (HNU.out n.t _ HF.out).mono ?_
    rintro e w3 ⟨rfl, own3, hP3, hM3⟩
    have HP3 := Lib.hid hP3
    have HM3 := Lib.hid hM3
    clear hP3 hM3
    go_wp2
    go_ret2
    rw [hs.out]
    exact ⟨rfl, own3, HP3.out, moves_pre HF.out HM3.out⟩
   ·have hs := Lib.hid (show simple2F s op a b = ((b, true), s) from by unfold simple2F; rw [hcl]; simp only [h0, h1, Bool.false_eq_true, if_false, if_true])
    have HB := Lib.hid (fun w1 hf => H0.out b w1 hf)
    rw [h0] at HB
    have HA := Lib.hid (fun w1 hf => H0.out a w1 hf)
    rw [h1] at HA
    clear hcl h0 h1 hab dab
    go_enter Tryz.func43, Tryz.ntmps43
    go_wp2
    go_quiet (fail)
    obtain ⟨w1, hw1⟩ : ∃ w1, w1 = w.drewN nq := ⟨_, rfl⟩
    rw [← hw1]
    have HF := Lib.hid (show Frm (fun _ => False) w w1 by rw [hw1]; exact HF.out.drewN _)
    clear hw1
    go_wp2_with fail
    refine (HB.out _ HF.out).mono ?_
    rintro e w' ⟨rfl, hf⟩
    have HF := Lib.hid (frm_then HF.out hf)
    clear hf
    go_wp2_with fail
    refine (HA.out _ HF.out).mono ?_
    rintro e w' ⟨rfl, hf⟩
    have HF := Lib.hid (frm_then HF.out hf)
    clear hf
    go_wp2
    go_ret2
    rw [hs.out]
    exact TPost.same HP.out rfl HF.out
  ·have hs := Lib.hid (show simple2F s op a b = ((a, true), s) from by unfold simple2F; rw [hcl]; simp only [h0, if_true])
   have HB := Lib.hid (fun w1 hf => H0.out b w1 hf)
   rw [h0] at HB
   clear hcl h0 hab dab
   go_enter Tryz.func43, Tryz.ntmps43
   go_wp2
   go_quiet (fail)
   obtain ⟨w1, hw1⟩ : ∃ w1, w1 = w.drewN nq := ⟨_, rfl⟩
   rw [← hw1]
   have HF := Lib.hid (show Frm (fun _ => False) w w1 by rw [hw1]; exact HF.out.drewN _)
   clear hw1
   go_wp2_with fail
   refine (HB.out _ HF.out).mono ?_
   rintro e w' ⟨rfl, hf⟩
   have HF := Lib.hid (frm_then HF.out hf)
   clear hf
   go_wp2
   go_ret2
   rw [hs.out]
   exact TPost.same HP.out rfl HF.out
 ·have dab : (a == b) = false := by simp [hab]
  cases h0 : isNumF s b 0
  ·cases h1 : isNumF s a 0
   ·have hs := Lib.hid (show simple2F s op a b = ((0, false), s) from by unfold simple2F; rw [hcl]; simp only [h0, h1, Bool.false_eq_true, if_false]; rw [dab]; rfl)
    have HB := Lib.hid (fun w1 hf => H0.out b w1 hf)
    rw [h0] at HB
    have HA := Lib.hid (fun w1 hf => H0.out a w1 hf)
    rw [h1] at HA
    clear hcl h0 h1 hab
    go_enter Tryz.func43, Tryz.ntmps43
    go_wp2
    go_quiet (fail)
    obtain ⟨w1, hw1⟩ : ∃ w1, w1 = w.drewN nq := ⟨_, rfl⟩
    rw [← hw1]
    have HF := Lib.hid (show Frm (fun _ => False) w w1 by rw [hw1]; exact HF.out.drewN _)
    clear hw1
    go_wp2_with fail
    refine (HB.out _ HF.out).mono ?_
    rintro e w' ⟨rfl, hf⟩
    have HF := Lib.hid (frm_then HF.out hf)
    clear hf
    go_wp2_with fail
    refine (HA.out _ HF.out).mono ?_
    rintro e w' ⟨rfl, hf⟩
    have HF := Lib.hid (frm_then HF.out hf)
    clear hf
    go_wp2
    go_ret2
    rw [hs.out]
    exact TPost.same HP.out rfl HF.out
   ·have hs := Lib.hid (show simple2F s op a b = ((b, true), s) from by unfold simple2F; rw [hcl]; simp only [h0, h1, Bool.false_eq_true, if_false, if_true])
    have HB := Lib.hid (fun w1 hf => H0.out b w1 hf)
    rw [h0] at HB
    have HA := Lib.hid (fun w1 hf => H0.out a w1 hf)
    rw [h1] at HA
    clear hcl h0 h1 hab dab
    go_enter Tryz.func43, Tryz.ntmps43
    go_wp2
    go_quiet (fail)
    obtain ⟨w1, hw1⟩ : ∃ w1, w1 = w.drewN nq := ⟨_, rfl⟩
    rw [← hw1]
    have HF := Lib.hid (show Frm (fun _ => False) w w1 by rw [hw1]; exact HF.out.drewN _)
    clear hw1
    go_wp2_with fail
    refine (HB.out _ HF.out).mono ?_
    rintro e w' ⟨rfl, hf⟩
    have HF := Lib.hid (frm_then HF.out hf)
    clear hf
    go_wp2_with fail
    refine (HA.out _ HF.out).mono ?_
    rintro e w' ⟨rfl, hf⟩
    have HF := Lib.hid (frm_then HF.out hf)
    clear hf
    go_wp2
    go_ret2
    rw [hs.out]
    exact TPost.same HP.out rfl HF.out
  ·have hs := Lib.hid (show simple2F s op a b = ((a, true), s) from by unfold simple2F; rw [hcl]; simp only [h0, if_true])
   have HB := Lib.hid (fun w1 hf => H0.out b w1 hf)
   rw [h0] at HB
   clear hcl h0 hab dab
   go_enter Tryz.func43, Tryz.ntmps43
   go_wp2
   go_quiet (fail)
   obtain ⟨w1, hw1⟩ : ∃ w1, w1 = w.drewN nq := ⟨_, rfl⟩
   rw [← hw1]
   have HF := Lib.hid (show Frm (fun _ => False) w w1 by rw [hw1]; exact HF.out.drewN _)
   clear hw1
   go_wp2_with fail
   refine (HB.out _ HF.out).mono ?_
   rintro e w' ⟨rfl, hf⟩
   have HF := Lib.hid (frm_then HF.out hf)
   clear hf
   go_wp2
   go_ret2
   rw [hs.out]
   exact TPost.same HP.out rfl HF.out
set_option maxRecDepth 100000 in
set_option maxHeartbeats 2000000 in
theorem simpleShl {w : World} {own : Nat → Prop} {p : Nat} {s : TPool} (hE : Env w) (h : PoolAt w own p s) (op : ByteArray) (a b : Int) (lv : Value) (hl : Sees w (Value.int .i64) lv [a, b]) (ha : inP s a = true) (hroom : s.l.length < 4294967296) (hop : op = ⟨#[60, 60]⟩) : Calls Tryz.prog 43 #[.pointer (some ⟨p, 0, none⟩), .string op, lv] w (TPost own w p (.tuple #[.int .i64 (simple2F s op a b).1.1, .bool (simple2F s op a b).1.2]) (simple2F s op a b).2) := by
 have H0 := Lib.hid (fun f w1 (hf : Frm (fun _ => False) w w1) => isNum_lit (hE.frm0 hf) (h.frm0 hf) f 0 0 rfl (by decide))
 have H1 := Lib.hid (fun f w1 (hf : Frm (fun _ => False) w w1) => isNum_lit (hE.frm0 hf) (h.frm0 hf) f 1 1 rfl (by decide))
 have HME := Lib.hid (fun w1 (hf : Frm (fun _ => False) w w1) => meet_calls (hE.frm0 hf) (h.frm0 hf) a b)
 have HJO := Lib.hid (fun w1 (hf : Frm (fun _ => False) w w1) => join_calls (hE.frm0 hf) (h.frm0 hf) a b)
 have HT := Lib.hid (fun x w1 (hf : Frm (fun _ => False) w w1) => truth_calls (hE.frm0 hf) (h.frm0 hf) x hroom)
 have HNU := Lib.hid (fun t w1 (hf : Frm (fun _ => False) w w1) => num_lit (hE.frm0 hf) (h.frm0 hf) t 0 0 rfl (by decide) hroom)
 have HP := Lib.hid h
 have HF := Lib.hid (Frm.refl (fun _ => False) w)
 obtain ⟨n, hn⟩ := nth_some (l := s.l) (f := a) (by simpa [inP] using ha)
 obtain ⟨l0, l1⟩ := nth_lt hn
 have ht : typeF s a = n.t := by unfold typeF; rw [hn]
 have HN := Lib.hid hn
 rcases hl with ⟨_, h⟩ | ⟨g, o, cap, rfl, hc1, hc2, hc⟩
 ·cases h
 have c0 : w.cell? ⟨g, o, none⟩ = _ := hc 0 a rfl
 have c1 := hc 1 b rfl
 clear hE h ha hn hc hc1 hc2
 have hcl : clsF op = .shift := by subst hop; kernel_rfl
 have d0 : (op.toList == [105, 116, 101]) = false := by subst hop; kernel_rfl
 have d1 : (op.toList == [38, 38]) = false := by subst hop; kernel_rfl
 have d2 : (op.toList == [38]) = false := by subst hop; kernel_rfl
 have d3 : (op.toList == [124, 124]) = false := by subst hop; kernel_rfl
 have d4 : (op.toList == [124]) = false := by subst hop; kernel_rfl
 have d5 : (op.toList == [43]) = false := by subst hop; kernel_rfl
 have d6 : (op.toList == [45]) = false := by subst hop; kernel_rfl
 have d7 : (op.toList == [94]) = false := by subst hop; kernel_rfl
 have d8 : (op.toList == [60, 60]) = true := by subst hop; kernel_rfl
 have d9 : (op.toList == [62, 62]) = false := by subst hop; kernel_rfl
 have z0 : 0 < op.size := by subst hop; decide
 have z1 : (((op[0]'z0).toNat : Int) != 60) = false := by subst hop; kernel_rfl
 have z2 : (((op[0]'z0).toNat : Int) != 62) = true := by subst hop; kernel_rfl
 clear hop
 have hs : Hid (simple2F s op a b = _) := Lib.hid (by unfold simple2F; rw [hcl])
 clear hcl
 go_enter Tryz.func43, Tryz.ntmps43
 go_wp2
 go_quiet (fail)
 obtain ⟨w1, hw1⟩ : ∃ w1, w1 = w.drewN nq := ⟨_, rfl⟩
 rw [← hw1]
 have HF := Lib.hid (show Frm (fun _ => False) w w1 by rw [hw1]; exact HF.out.drewN _)
 clear hw1
 go_wp2_with (go_at_call 74; first | ((with_reducible refine (H0.out _ _ HF.out).mono ?_); rintro e w' ⟨rfl, hf⟩; have HF := Lib.hid (frm_then HF.out hf); clear hf) | ((with_reducible refine (H1.out _ _ HF.out).mono ?_); rintro e w' ⟨rfl, hf⟩; have HF := Lib.hid (frm_then HF.out hf); clear hf))
 all_goals go_ret2
 all_goals
  rw [hs.out]
  simp only [*, if_true, if_false, Bool.false_eq_true]
  exact TPost.same HP.out rfl HF.out
set_option maxRecDepth 100000 in
set_option maxHeartbeats 2000000 in
theorem simpleShr {w : World} {own : Nat → Prop} {p : Nat} {s : TPool} (hE : Env w) (h : PoolAt w own p s) (op : ByteArray) (a b : Int) (lv : Value) (hl : Sees w (Value.int .i64) lv [a, b]) (ha : inP s a = true) (hroom : s.l.length < 4294967296) (hop : op = ⟨#[62, 62]⟩) : Calls Tryz.prog 43 #[.pointer (some ⟨p, 0, none⟩), .string op, lv] w (TPost own w p (.tuple #[.int .i64 (simple2F s op a b).1.1, .bool (simple2F s op a b).1.2]) (simple2F s op a b).2) := by
 have H0 := Lib.hid (fun f w1 (hf : Frm (fun _ => False) w w1) => isNum_lit (hE.frm0 hf) (h.frm0 hf) f 0 0 rfl (by decide))
 have H1 := Lib.hid (fun f w1 (hf : Frm (fun _ => False) w w1) => isNum_lit (hE.frm0 hf) (h.frm0 hf) f 1 1 rfl (by decide))
 have HME := Lib.hid (fun w1 (hf : Frm (fun _ => False) w w1) => meet_calls (hE.frm0 hf) (h.frm0 hf) a b)
 have HJO := Lib.hid (fun w1 (hf : Frm (fun _ => False) w w1) => join_calls (hE.frm0 hf) (h.frm0 hf) a b)
 have HT := Lib.hid (fun x w1 (hf : Frm (fun _ => False) w w1) => truth_calls (hE.frm0 hf) (h.frm0 hf) x hroom)
 have HNU := Lib.hid (fun t w1 (hf : Frm (fun _ => False) w w1) => num_lit (hE.frm0 hf) (h.frm0 hf) t 0 0 rfl (by decide) hroom)
 have HP := Lib.hid h
 have HF := Lib.hid (Frm.refl (fun _ => False) w)
 obtain ⟨n, hn⟩ := nth_some (l := s.l) (f := a) (by simpa [inP] using ha)
 obtain ⟨l0, l1⟩ := nth_lt hn
 have ht : typeF s a = n.t := by unfold typeF; rw [hn]
 have HN := Lib.hid hn
 rcases hl with ⟨_, h⟩ | ⟨g, o, cap, rfl, hc1, hc2, hc⟩
 ·cases h
 have c0 : w.cell? ⟨g, o, none⟩ = _ := hc 0 a rfl
 have c1 := hc 1 b rfl
 clear hE h ha hn hc hc1 hc2
 have hcl : clsF op = .shift := by subst hop; kernel_rfl
 have d0 : (op.toList == [105, 116, 101]) = false := by subst hop; kernel_rfl
 have d1 : (op.toList == [38, 38]) = false := by subst hop; kernel_rfl
 have d2 : (op.toList == [38]) = false := by subst hop; kernel_rfl
 have d3 : (op.toList == [124, 124]) = false := by subst hop; kernel_rfl
 have d4 : (op.toList == [124]) = false := by subst hop; kernel_rfl
 have d5 : (op.toList == [43]) = false := by subst hop; kernel_rfl
 have d6 : (op.toList == [45]) = false := by subst hop; kernel_rfl
 have d7 : (op.toList == [94]) = false := by subst hop; kernel_rfl
 have d8 : (op.toList == [60, 60]) = false := by subst hop; kernel_rfl
 have d9 : (op.toList == [62, 62]) = true := by subst hop; kernel_rfl
 have z0 : 0 < op.size := by subst hop; decide
 have z1 : (((op[0]'z0).toNat : Int) != 60) = true := by subst hop; kernel_rfl
 have z2 : (((op[0]'z0).toNat : Int) != 62) = false := by subst hop; kernel_rfl
 clear hop
 have hs : Hid (simple2F s op a b = _) := Lib.hid (by unfold simple2F; rw [hcl])
 clear hcl
 go_enter Tryz.func43, Tryz.ntmps43
 go_wp2
 go_quiet (fail)
 obtain ⟨w1, hw1⟩ : ∃ w1, w1 = w.drewN nq := ⟨_, rfl⟩
 rw [← hw1]
 have HF := Lib.hid (show Frm (fun _ => False) w w1 by rw [hw1]; exact HF.out.drewN _)
 clear hw1
 go_wp2_with (go_at_call 74; first | ((with_reducible refine (H0.out _ _ HF.out).mono ?_); rintro e w' ⟨rfl, hf⟩; have HF := Lib.hid (frm_then HF.out hf); clear hf) | ((with_reducible refine (H1.out _ _ HF.out).mono ?_); rintro e w' ⟨rfl, hf⟩; have HF := Lib.hid (frm_then HF.out hf); clear hf))
 all_goals go_ret2
 all_goals
  rw [hs.out]
  simp only [*, if_true, if_false, Bool.false_eq_true]
  exact TPost.same HP.out rfl HF.out
set_option maxRecDepth 100000 in
set_option maxHeartbeats 2000000 in
theorem simpleMul {w : World} {own : Nat → Prop} {p : Nat} {s : TPool} (hE : Env w) (h : PoolAt w own p s) (op : ByteArray) (a b : Int) (lv : Value) (hl : Sees w (Value.int .i64) lv [a, b]) (ha : inP s a = true) (hroom : s.l.length < 4294967296) (hop : op = ⟨#[42]⟩) : Calls Tryz.prog 43 #[.pointer (some ⟨p, 0, none⟩), .string op, lv] w (TPost own w p (.tuple #[.int .i64 (simple2F s op a b).1.1, .bool (simple2F s op a b).1.2]) (simple2F s op a b).2) := by
 have H0 := Lib.hid (fun f w1 (hf : Frm (fun _ => False) w w1) => isNum_lit (hE.frm0 hf) (h.frm0 hf) f 0 0 rfl (by decide))
 have H1 := Lib.hid (fun f w1 (hf : Frm (fun _ => False) w w1) => isNum_lit (hE.frm0 hf) (h.frm0 hf) f 1 1 rfl (by decide))
 have HME := Lib.hid (fun w1 (hf : Frm (fun _ => False) w w1) => meet_calls (hE.frm0 hf) (h.frm0 hf) a b)
 have HJO := Lib.hid (fun w1 (hf : Frm (fun _ => False) w w1) => join_calls (hE.frm0 hf) (h.frm0 hf) a b)
 have HT := Lib.hid (fun x w1 (hf : Frm (fun _ => False) w w1) => truth_calls (hE.frm0 hf) (h.frm0 hf) x hroom)
 have HNU := Lib.hid (fun t w1 (hf : Frm (fun _ => False) w w1) => num_lit (hE.frm0 hf) (h.frm0 hf) t 0 0 rfl (by decide) hroom)
 have HP := Lib.hid h
 have HF := Lib.hid (Frm.refl (fun _ => False) w)
 obtain ⟨n, hn⟩ := nth_some (l := s.l) (f := a) (by simpa [inP] using ha)
 obtain ⟨l0, l1⟩ := nth_lt hn
 have ht : typeF s a = n.t := by unfold typeF; rw [hn]
 have HN := Lib.hid hn
 rcases hl with ⟨_, h⟩ | ⟨g, o, cap, rfl, hc1, hc2, hc⟩
 ·cases h
 have c0 : w.cell? ⟨g, o, none⟩ = _ := hc 0 a rfl
 have c1 := hc 1 b rfl
 clear hE h ha hn hc hc1 hc2
 have hcl : clsF op = .mul := by subst hop; kernel_rfl
 have d0 : (op.toList == [105, 116, 101]) = false := by subst hop; kernel_rfl
 have d1 : (op.toList == [38, 38]) = false := by subst hop; kernel_rfl
 have d2 : (op.toList == [38]) = false := by subst hop; kernel_rfl
 have d3 : (op.toList == [124, 124]) = false := by subst hop; kernel_rfl
 have d4 : (op.toList == [124]) = false := by subst hop; kernel_rfl
 have d5 : (op.toList == [43]) = false := by subst hop; kernel_rfl
 have d6 : (op.toList == [45]) = false := by subst hop; kernel_rfl
 have d7 : (op.toList == [94]) = false := by subst hop; kernel_rfl
 have d8 : (op.toList == [60, 60]) = false := by subst hop; kernel_rfl
 have d9 : (op.toList == [62, 62]) = false := by subst hop; kernel_rfl
 have d10 : (op.toList == [42]) = true := by subst hop; kernel_rfl
 clear hop
 have HB1 := Lib.hid (fun w1 hf => H1.out b w1 hf)
 have HA0 := Lib.hid (fun w1 hf => H0.out a w1 hf)
 have HB0 := Lib.hid (fun w1 hf => H0.out b w1 hf)
 cases h1 : isNumF s b 1
 ·cases h2 : isNumF s a 0
  ·cases h3 : isNumF s b 0
   ·have hs := Lib.hid (show simple2F s op a b = ((0, false), s) from by unfold simple2F; rw [hcl]; simp only [h1, h2, h3, Bool.false_eq_true, if_false, or_self, or_true, if_true])
    rw [h1] at HB1
    rw [h2] at HA0
    rw [h3] at HB0
    clear hcl h1 h2 h3
    go_enter Tryz.func43, Tryz.ntmps43
    go_wp2
    go_quiet (fail)
    obtain ⟨w1, hw1⟩ : ∃ w1, w1 = w.drewN nq := ⟨_, rfl⟩
    rw [← hw1]
    have HF := Lib.hid (show Frm (fun _ => False) w w1 by rw [hw1]; exact HF.out.drewN _)
    clear hw1
    go_wp2_with fail
    refine (HB1.out _ HF.out).mono ?_
    rintro e w' ⟨rfl, hf⟩
    have HF := Lib.hid (frm_then HF.out hf)
    clear hf
    go_wp2_with fail
    refine (HA0.out _ HF.out).mono ?_
    rintro e w' ⟨rfl, hf⟩
    have HF := Lib.hid (frm_then HF.out hf)
    clear hf
    go_wp2_with fail
    refine (HB0.out _ HF.out).mono ?_
    rintro e w' ⟨rfl, hf⟩
    have HF := Lib.hid (frm_then HF.out hf)
    clear hf
    go_wp2
    go_ret2
    rw [hs.out]
    exact TPost.same HP.out rfl HF.out
   ·have hs := Lib.hid (show simple2F s op a b = (((numF s (typeF s a) 0).1, true), (numF s (typeF s a) 0).2) from by unfold simple2F; rw [hcl]; simp only [h1, h2, h3, Bool.false_eq_true, if_false, or_self, or_true, if_true])
    rw [h1] at HB1
    rw [h2] at HA0
    rw [h3] at HB0
    clear hcl h1 h2 h3
    rw [ht] at hs
    go_enter Tryz.func43, Tryz.ntmps43
    go_wp2
    go_quiet (fail)
    obtain ⟨w1, hw1⟩ : ∃ w1, w1 = w.drewN nq := ⟨_, rfl⟩
    rw [← hw1]
    have HF := Lib.hid (show Frm (fun _ => False) w w1 by rw [hw1]; exact HF.out.drewN _)
    clear hw1
    go_wp2_with fail
    refine (HB1.out _ HF.out).mono ?_
    rintro e w' ⟨rfl, hf⟩
    have HF := Lib.hid (frm_then HF.out hf)
    clear hf
    go_wp2_with fail
    refine (HA0.out _ HF.out).mono ?_
    rintro e w' ⟨rfl, hf⟩
    have HF := Lib.hid (frm_then HF.out hf)
    clear hf
    go_wp2_with fail
    refine (HB0.out _ HF.out).mono ?_
    rintro e w' ⟨rfl, hf⟩
    have HF := Lib.hid (frm_then HF.out hf)
    clear hf
    obtain ⟨gp, cp, kv, p0, _, _, _, e0, e1, e2, e3, e4, e5⟩ := (HP.out.frm0 HF.out).node HN.out
    clear e0 e3 e4 e5
    go_wp2_with fail
    refine (HNU.out n.t _ HF.out).mono ?_
    rintro e w3 ⟨rfl, own3, hP3, hM3⟩
    have HP3 := Lib.hid hP3
    have HM3 := Lib.hid hM3
    clear hP3 hM3
    go_wp2
    go_ret2
    rw [hs.out]
    exact ⟨rfl, own3, HP3.out, moves_pre HF.out HM3.out⟩
  ·have hs := Lib.hid (show simple2F s op a b = (((numF s (typeF s a) 0).1, true), (numF s (typeF s a) 0).2) from by unfold simple2F; rw [hcl]; simp only [h1, h2, Bool.false_eq_true, if_false, true_or, if_true])
   rw [h1] at HB1
   rw [h2] at HA0
   clear hcl h1 h2
   rw [ht] at hs
   go_enter Tryz.func43, Tryz.ntmps43
   go_wp2
   go_quiet (fail)
   obtain ⟨w1, hw1⟩ : ∃ w1, w1 = w.drewN nq := ⟨_, rfl⟩
   rw [← hw1]
   have HF := Lib.hid (show Frm (fun _ => False) w w1 by rw [hw1]; exact HF.out.drewN _)
   clear hw1
   go_wp2_with fail
   refine (HB1.out _ HF.out).mono ?_
   rintro e w' ⟨rfl, hf⟩
   have HF := Lib.hid (frm_then HF.out hf)
   clear hf
   go_wp2_with fail
   refine (HA0.out _ HF.out).mono ?_
   rintro e w' ⟨rfl, hf⟩
   have HF := Lib.hid (frm_then HF.out hf)
   clear hf
   obtain ⟨gp, cp, kv, p0, _, _, _, e0, e1, e2, e3, e4, e5⟩ := (HP.out.frm0 HF.out).node HN.out
   clear e0 e3 e4 e5
   go_wp2_with fail
   refine (HNU.out n.t _ HF.out).mono ?_
   rintro e w3 ⟨rfl, own3, hP3, hM3⟩
   have HP3 := Lib.hid hP3
   have HM3 := Lib.hid hM3
   clear hP3 hM3
   go_wp2
   go_ret2
   rw [hs.out]
   exact ⟨rfl, own3, HP3.out, moves_pre HF.out HM3.out⟩
 ·have hs := Lib.hid (show simple2F s op a b = ((a, true), s) from by unfold simple2F; rw [hcl]; simp only [h1, if_true])
  rw [h1] at HB1
  clear hcl h1
  go_enter Tryz.func43, Tryz.ntmps43
  go_wp2
  go_quiet (fail)
  obtain ⟨w1, hw1⟩ : ∃ w1, w1 = w.drewN nq := ⟨_, rfl⟩
  rw [← hw1]
  have HF := Lib.hid (show Frm (fun _ => False) w w1 by rw [hw1]; exact HF.out.drewN _)
  clear hw1
  go_wp2_with fail
  refine (HB1.out _ HF.out).mono ?_
  rintro e w' ⟨rfl, hf⟩
  have HF := Lib.hid (frm_then HF.out hf)
  clear hf
  go_wp2
  go_ret2
  rw [hs.out]
  exact TPost.same HP.out rfl HF.out
set_option maxRecDepth 100000 in
set_option maxHeartbeats 2000000 in
theorem simpleQuo {w : World} {own : Nat → Prop} {p : Nat} {s : TPool} (hE : Env w) (h : PoolAt w own p s) (op : ByteArray) (a b : Int) (lv : Value) (hl : Sees w (Value.int .i64) lv [a, b]) (ha : inP s a = true) (hroom : s.l.length < 4294967296) (hop : op = ⟨#[47]⟩) : Calls Tryz.prog 43 #[.pointer (some ⟨p, 0, none⟩), .string op, lv] w (TPost own w p (.tuple #[.int .i64 (simple2F s op a b).1.1, .bool (simple2F s op a b).1.2]) (simple2F s op a b).2) := by
 have H0 := Lib.hid (fun f w1 (hf : Frm (fun _ => False) w w1) => isNum_lit (hE.frm0 hf) (h.frm0 hf) f 0 0 rfl (by decide))
 have H1 := Lib.hid (fun f w1 (hf : Frm (fun _ => False) w w1) => isNum_lit (hE.frm0 hf) (h.frm0 hf) f 1 1 rfl (by decide))
 have HME := Lib.hid (fun w1 (hf : Frm (fun _ => False) w w1) => meet_calls (hE.frm0 hf) (h.frm0 hf) a b)
 have HJO := Lib.hid (fun w1 (hf : Frm (fun _ => False) w w1) => join_calls (hE.frm0 hf) (h.frm0 hf) a b)
 have HT := Lib.hid (fun x w1 (hf : Frm (fun _ => False) w w1) => truth_calls (hE.frm0 hf) (h.frm0 hf) x hroom)
 have HNU := Lib.hid (fun t w1 (hf : Frm (fun _ => False) w w1) => num_lit (hE.frm0 hf) (h.frm0 hf) t 0 0 rfl (by decide) hroom)
 have HP := Lib.hid h
 have HF := Lib.hid (Frm.refl (fun _ => False) w)
 obtain ⟨n, hn⟩ := nth_some (l := s.l) (f := a) (by simpa [inP] using ha)
 obtain ⟨l0, l1⟩ := nth_lt hn
 have ht : typeF s a = n.t := by unfold typeF; rw [hn]
 have HN := Lib.hid hn
 rcases hl with ⟨_, h⟩ | ⟨g, o, cap, rfl, hc1, hc2, hc⟩
 ·cases h
 have c0 : w.cell? ⟨g, o, none⟩ = _ := hc 0 a rfl
 have c1 := hc 1 b rfl
 clear hE h ha hn hc hc1 hc2
 have hcl : clsF op = .mul := by subst hop; kernel_rfl
 have d0 : (op.toList == [105, 116, 101]) = false := by subst hop; kernel_rfl
 have d1 : (op.toList == [38, 38]) = false := by subst hop; kernel_rfl
 have d2 : (op.toList == [38]) = false := by subst hop; kernel_rfl
 have d3 : (op.toList == [124, 124]) = false := by subst hop; kernel_rfl
 have d4 : (op.toList == [124]) = false := by subst hop; kernel_rfl
 have d5 : (op.toList == [43]) = false := by subst hop; kernel_rfl
 have d6 : (op.toList == [45]) = false := by subst hop; kernel_rfl
 have d7 : (op.toList == [94]) = false := by subst hop; kernel_rfl
 have d8 : (op.toList == [60, 60]) = false := by subst hop; kernel_rfl
 have d9 : (op.toList == [62, 62]) = false := by subst hop; kernel_rfl
 have d10 : (op.toList == [42]) = false := by subst hop; kernel_rfl
 have d11 : (op.toList == [47]) = true := by subst hop; kernel_rfl
 clear hop
 have HB1 := Lib.hid (fun w1 hf => H1.out b w1 hf)
 have HA0 := Lib.hid (fun w1 hf => H0.out a w1 hf)
 have HB0 := Lib.hid (fun w1 hf => H0.out b w1 hf)
 cases h1 : isNumF s b 1
 ·cases h2 : isNumF s a 0
  ·cases h3 : isNumF s b 0
   ·have hs := Lib.hid (show simple2F s op a b = ((0, false), s) from by unfold simple2F; rw [hcl]; simp only [h1, h2, h3, Bool.false_eq_true, if_false, or_self, or_true, if_true])
    rw [h1] at HB1
    rw [h2] at HA0
    rw [h3] at HB0
    clear hcl h1 h2 h3
    go_enter Tryz.func43, Tryz.ntmps43
    go_wp2
    go_quiet (fail)
    obtain ⟨w1, hw1⟩ : ∃ w1, w1 = w.drewN nq := ⟨_, rfl⟩
    rw [← hw1]
    have HF := Lib.hid (show Frm (fun _ => False) w w1 by rw [hw1]; exact HF.out.drewN _)
    clear hw1
    go_wp2_with fail
    refine (HB1.out _ HF.out).mono ?_
    rintro e w' ⟨rfl, hf⟩
    have HF := Lib.hid (frm_then HF.out hf)
    clear hf
    go_wp2_with fail
    refine (HA0.out _ HF.out).mono ?_
    rintro e w' ⟨rfl, hf⟩
    have HF := Lib.hid (frm_then HF.out hf)
    clear hf
    go_wp2_with fail
    refine (HB0.out _ HF.out).mono ?_
    rintro e w' ⟨rfl, hf⟩
    have HF := Lib.hid (frm_then HF.out hf)
    clear hf
    go_wp2
    go_ret2
    rw [hs.out]
    exact TPost.same HP.out rfl HF.out
   ·have hs := Lib.hid (show simple2F s op a b = (((numF s (typeF s a) 0).1, true), (numF s (typeF s a) 0).2) from by unfold simple2F; rw [hcl]; simp only [h1, h2, h3, Bool.false_eq_true, if_false, or_self, or_true, if_true])
    rw [h1] at HB1
    rw [h2] at HA0
    rw [h3] at HB0
    clear hcl h1 h2 h3
    rw [ht] at hs
    go_enter Tryz.func43, Tryz.ntmps43
    go_wp2
    go_quiet (fail)
    obtain ⟨w1, hw1⟩ : ∃ w1, w1 = w.drewN nq := ⟨_, rfl⟩
    rw [← hw1]
    have HF := Lib.hid (show Frm (fun _ => False) w w1 by rw [hw1]; exact HF.out.drewN _)
    clear hw1
    go_wp2_with fail
    refine (HB1.out _ HF.out).mono ?_
    rintro e w' ⟨rfl, hf⟩
    have HF := Lib.hid (frm_then HF.out hf)
    clear hf
    go_wp2_with fail
    refine (HA0.out _ HF.out).mono ?_
    rintro e w' ⟨rfl, hf⟩
    have HF := Lib.hid (frm_then HF.out hf)
    clear hf
    go_wp2_with fail
    refine (HB0.out _ HF.out).mono ?_
    rintro e w' ⟨rfl, hf⟩
    have HF := Lib.hid (frm_then HF.out hf)
    clear hf
    obtain ⟨gp, cp, kv, p0, _, _, _, e0, e1, e2, e3, e4, e5⟩ := (HP.out.frm0 HF.out).node HN.out
    clear e0 e3 e4 e5
    go_wp2_with fail
    refine (HNU.out n.t _ HF.out).mono ?_
    rintro e w3 ⟨rfl, own3, hP3, hM3⟩
    have HP3 := Lib.hid hP3
    have HM3 := Lib.hid hM3
    clear hP3 hM3
    go_wp2
    go_ret2
    rw [hs.out]
    exact ⟨rfl, own3, HP3.out, moves_pre HF.out HM3.out⟩
  ·have hs := Lib.hid (show simple2F s op a b = (((numF s (typeF s a) 0).1, true), (numF s (typeF s a) 0).2) from by unfold simple2F; rw [hcl]; simp only [h1, h2, Bool.false_eq_true, if_false, true_or, if_true])
   rw [h1] at HB1
   rw [h2] at HA0
   clear hcl h1 h2
   rw [ht] at hs
   go_enter Tryz.func43, Tryz.ntmps43
   go_wp2
   go_quiet (fail)
   obtain ⟨w1, hw1⟩ : ∃ w1, w1 = w.drewN nq := ⟨_, rfl⟩
   rw [← hw1]
   have HF := Lib.hid (show Frm (fun _ => False) w w1 by rw [hw1]; exact HF.out.drewN _)
   clear hw1
   go_wp2_with fail
   refine (HB1.out _ HF.out).mono ?_
   rintro e w' ⟨rfl, hf⟩
   have HF := Lib.hid (frm_then HF.out hf)
   clear hf
   go_wp2_with fail
   refine (HA0.out _ HF.out).mono ?_
   rintro e w' ⟨rfl, hf⟩
   have HF := Lib.hid (frm_then HF.out hf)
   clear hf
   obtain ⟨gp, cp, kv, p0, _, _, _, e0, e1, e2, e3, e4, e5⟩ := (HP.out.frm0 HF.out).node HN.out
   clear e0 e3 e4 e5
   go_wp2_with fail
   refine (HNU.out n.t _ HF.out).mono ?_
   rintro e w3 ⟨rfl, own3, hP3, hM3⟩
   have HP3 := Lib.hid hP3
   have HM3 := Lib.hid hM3
   clear hP3 hM3
   go_wp2
   go_ret2
   rw [hs.out]
   exact ⟨rfl, own3, HP3.out, moves_pre HF.out HM3.out⟩
 ·have hs := Lib.hid (show simple2F s op a b = ((a, true), s) from by unfold simple2F; rw [hcl]; simp only [h1, if_true])
  rw [h1] at HB1
  clear hcl h1
  go_enter Tryz.func43, Tryz.ntmps43
  go_wp2
  go_quiet (fail)
  obtain ⟨w1, hw1⟩ : ∃ w1, w1 = w.drewN nq := ⟨_, rfl⟩
  rw [← hw1]
  have HF := Lib.hid (show Frm (fun _ => False) w w1 by rw [hw1]; exact HF.out.drewN _)
  clear hw1
  go_wp2_with fail
  refine (HB1.out _ HF.out).mono ?_
  rintro e w' ⟨rfl, hf⟩
  have HF := Lib.hid (frm_then HF.out hf)
  clear hf
  go_wp2
  go_ret2
  rw [hs.out]
  exact TPost.same HP.out rfl HF.out
set_option maxRecDepth 100000 in
set_option maxHeartbeats 2000000 in
theorem simpleEq {w : World} {own : Nat → Prop} {p : Nat} {s : TPool} (hE : Env w) (h : PoolAt w own p s) (op : ByteArray) (a b : Int) (lv : Value) (hl : Sees w (Value.int .i64) lv [a, b]) (ha : inP s a = true) (hroom : s.l.length < 4294967296) (hop : op = ⟨#[61, 61]⟩) : Calls Tryz.prog 43 #[.pointer (some ⟨p, 0, none⟩), .string op, lv] w (TPost own w p (.tuple #[.int .i64 (simple2F s op a b).1.1, .bool (simple2F s op a b).1.2]) (simple2F s op a b).2) := by
 have H0 := Lib.hid (fun f w1 (hf : Frm (fun _ => False) w w1) => isNum_lit (hE.frm0 hf) (h.frm0 hf) f 0 0 rfl (by decide))
 have H1 := Lib.hid (fun f w1 (hf : Frm (fun _ => False) w w1) => isNum_lit (hE.frm0 hf) (h.frm0 hf) f 1 1 rfl (by decide))
 have HME := Lib.hid (fun w1 (hf : Frm (fun _ => False) w w1) => meet_calls (hE.frm0 hf) (h.frm0 hf) a b)
 have HJO := Lib.hid (fun w1 (hf : Frm (fun _ => False) w w1) => join_calls (hE.frm0 hf) (h.frm0 hf) a b)
 have HT := Lib.hid (fun x w1 (hf : Frm (fun _ => False) w w1) => truth_calls (hE.frm0 hf) (h.frm0 hf) x hroom)
 have HNU := Lib.hid (fun t w1 (hf : Frm (fun _ => False) w w1) => num_lit (hE.frm0 hf) (h.frm0 hf) t 0 0 rfl (by decide) hroom)
 have HP := Lib.hid h
 have HF := Lib.hid (Frm.refl (fun _ => False) w)
 obtain ⟨n, hn⟩ := nth_some (l := s.l) (f := a) (by simpa [inP] using ha)
 obtain ⟨l0, l1⟩ := nth_lt hn
 have ht : typeF s a = n.t := by unfold typeF; rw [hn]
 have HN := Lib.hid hn
 rcases hl with ⟨_, h⟩ | ⟨g, o, cap, rfl, hc1, hc2, hc⟩
 ·cases h
 have c0 : w.cell? ⟨g, o, none⟩ = _ := hc 0 a rfl
 have c1 := hc 1 b rfl
 clear hE h ha hn hc hc1 hc2
 have hcl : clsF op = .tt := by subst hop; kernel_rfl
 have d0 : (op.toList == [105, 116, 101]) = false := by subst hop; kernel_rfl
 have d1 : (op.toList == [38, 38]) = false := by subst hop; kernel_rfl
 have d2 : (op.toList == [38]) = false := by subst hop; kernel_rfl
 have d3 : (op.toList == [124, 124]) = false := by subst hop; kernel_rfl
 have d4 : (op.toList == [124]) = false := by subst hop; kernel_rfl
 have d5 : (op.toList == [43]) = false := by subst hop; kernel_rfl
 have d6 : (op.toList == [45]) = false := by subst hop; kernel_rfl
 have d7 : (op.toList == [94]) = false := by subst hop; kernel_rfl
 have d8 : (op.toList == [60, 60]) = false := by subst hop; kernel_rfl
 have d9 : (op.toList == [62, 62]) = false := by subst hop; kernel_rfl
 have d10 : (op.toList == [42]) = false := by subst hop; kernel_rfl
 have d11 : (op.toList == [47]) = false := by subst hop; kernel_rfl
 have d12 : (op.toList == [61, 61]) = true := by subst hop; kernel_rfl
 clear hop
 have hs : Hid (simple2F s op a b = (((truthF s true).1, a == b), (truthF s true).2)) := Lib.hid (by unfold simple2F; rw [hcl])
 clear hcl
 go_enter Tryz.func43, Tryz.ntmps43
 go_wp2
 go_quiet (fail)
 obtain ⟨w1, hw1⟩ : ∃ w1, w1 = w.drewN nq := ⟨_, rfl⟩
 rw [← hw1]
 have HF := Lib.hid (show Frm (fun _ => False) w w1 by rw [hw1]; exact HF.out.drewN _)
 clear hw1
 go_wp2_with fail
 refine (HT.out true _ HF.out).mono ?_
 rintro e w2 ⟨rfl, own2, hP2, hM2⟩
 have HP2 := Lib.hid hP2
 have HM2 := Lib.hid hM2
 clear hP2 hM2
 go_wp2
 go_ret2
 rw [hs.out]
 exact ⟨rfl, own2, HP2.out, moves_pre HF.out HM2.out⟩
set_option maxRecDepth 100000 in
set_option maxHeartbeats 2000000 in
theorem simpleLe {w : World} {own : Nat → Prop} {p : Nat} {s : TPool} (hE : Env w) (h : PoolAt w own p s) (op : ByteArray) (a b : Int) (lv : Value) (hl : Sees w (Value.int .i64) lv [a, b]) (ha : inP s a = true) (hroom : s.l.length < 4294967296) (hop : op = ⟨#[60, 61]⟩) : Calls Tryz.prog 43 #[.pointer (some ⟨p, 0, none⟩), .string op, lv] w (TPost own w p (.tuple #[.int .i64 (simple2F s op a b).1.1, .bool (simple2F s op a b).1.2]) (simple2F s op a b).2) := by
 have H0 := Lib.hid (fun f w1 (hf : Frm (fun _ => False) w w1) => isNum_lit (hE.frm0 hf) (h.frm0 hf) f 0 0 rfl (by decide))
 have H1 := Lib.hid (fun f w1 (hf : Frm (fun _ => False) w w1) => isNum_lit (hE.frm0 hf) (h.frm0 hf) f 1 1 rfl (by decide))
 have HME := Lib.hid (fun w1 (hf : Frm (fun _ => False) w w1) => meet_calls (hE.frm0 hf) (h.frm0 hf) a b)
 have HJO := Lib.hid (fun w1 (hf : Frm (fun _ => False) w w1) => join_calls (hE.frm0 hf) (h.frm0 hf) a b)
 have HT := Lib.hid (fun x w1 (hf : Frm (fun _ => False) w w1) => truth_calls (hE.frm0 hf) (h.frm0 hf) x hroom)
 have HNU := Lib.hid (fun t w1 (hf : Frm (fun _ => False) w w1) => num_lit (hE.frm0 hf) (h.frm0 hf) t 0 0 rfl (by decide) hroom)
 have HP := Lib.hid h
 have HF := Lib.hid (Frm.refl (fun _ => False) w)
 obtain ⟨n, hn⟩ := nth_some (l := s.l) (f := a) (by simpa [inP] using ha)
 obtain ⟨l0, l1⟩ := nth_lt hn
 have ht : typeF s a = n.t := by unfold typeF; rw [hn]
 have HN := Lib.hid hn
 rcases hl with ⟨_, h⟩ | ⟨g, o, cap, rfl, hc1, hc2, hc⟩
 ·cases h
 have c0 : w.cell? ⟨g, o, none⟩ = _ := hc 0 a rfl
 have c1 := hc 1 b rfl
 clear hE h ha hn hc hc1 hc2
 have hcl : clsF op = .tt := by subst hop; kernel_rfl
 have d0 : (op.toList == [105, 116, 101]) = false := by subst hop; kernel_rfl
 have d1 : (op.toList == [38, 38]) = false := by subst hop; kernel_rfl
 have d2 : (op.toList == [38]) = false := by subst hop; kernel_rfl
 have d3 : (op.toList == [124, 124]) = false := by subst hop; kernel_rfl
 have d4 : (op.toList == [124]) = false := by subst hop; kernel_rfl
 have d5 : (op.toList == [43]) = false := by subst hop; kernel_rfl
 have d6 : (op.toList == [45]) = false := by subst hop; kernel_rfl
 have d7 : (op.toList == [94]) = false := by subst hop; kernel_rfl
 have d8 : (op.toList == [60, 60]) = false := by subst hop; kernel_rfl
 have d9 : (op.toList == [62, 62]) = false := by subst hop; kernel_rfl
 have d10 : (op.toList == [42]) = false := by subst hop; kernel_rfl
 have d11 : (op.toList == [47]) = false := by subst hop; kernel_rfl
 have d12 : (op.toList == [61, 61]) = false := by subst hop; kernel_rfl
 have d13 : (op.toList == [60, 61]) = true := by subst hop; kernel_rfl
 clear hop
 have hs : Hid (simple2F s op a b = (((truthF s true).1, a == b), (truthF s true).2)) := Lib.hid (by unfold simple2F; rw [hcl])
 clear hcl
 go_enter Tryz.func43, Tryz.ntmps43
 go_wp2
 go_quiet (fail)
 obtain ⟨w1, hw1⟩ : ∃ w1, w1 = w.drewN nq := ⟨_, rfl⟩
 rw [← hw1]
 have HF := Lib.hid (show Frm (fun _ => False) w w1 by rw [hw1]; exact HF.out.drewN _)
 clear hw1
 go_wp2_with fail
 refine (HT.out true _ HF.out).mono ?_
 rintro e w2 ⟨rfl, own2, hP2, hM2⟩
 have HP2 := Lib.hid hP2
 have HM2 := Lib.hid hM2
 clear hP2 hM2
 go_wp2
 go_ret2
 rw [hs.out]
 exact ⟨rfl, own2, HP2.out, moves_pre HF.out HM2.out⟩
set_option maxRecDepth 100000 in
set_option maxHeartbeats 2000000 in
theorem simpleGe {w : World} {own : Nat → Prop} {p : Nat} {s : TPool} (hE : Env w) (h : PoolAt w own p s) (op : ByteArray) (a b : Int) (lv : Value) (hl : Sees w (Value.int .i64) lv [a, b]) (ha : inP s a = true) (hroom : s.l.length < 4294967296) (hop : op = ⟨#[62, 61]⟩) : Calls Tryz.prog 43 #[.pointer (some ⟨p, 0, none⟩), .string op, lv] w (TPost own w p (.tuple #[.int .i64 (simple2F s op a b).1.1, .bool (simple2F s op a b).1.2]) (simple2F s op a b).2) := by
 have H0 := Lib.hid (fun f w1 (hf : Frm (fun _ => False) w w1) => isNum_lit (hE.frm0 hf) (h.frm0 hf) f 0 0 rfl (by decide))
 have H1 := Lib.hid (fun f w1 (hf : Frm (fun _ => False) w w1) => isNum_lit (hE.frm0 hf) (h.frm0 hf) f 1 1 rfl (by decide))
 have HME := Lib.hid (fun w1 (hf : Frm (fun _ => False) w w1) => meet_calls (hE.frm0 hf) (h.frm0 hf) a b)
 have HJO := Lib.hid (fun w1 (hf : Frm (fun _ => False) w w1) => join_calls (hE.frm0 hf) (h.frm0 hf) a b)
 have HT := Lib.hid (fun x w1 (hf : Frm (fun _ => False) w w1) => truth_calls (hE.frm0 hf) (h.frm0 hf) x hroom)
 have HNU := Lib.hid (fun t w1 (hf : Frm (fun _ => False) w w1) => num_lit (hE.frm0 hf) (h.frm0 hf) t 0 0 rfl (by decide) hroom)
 have HP := Lib.hid h
 have HF := Lib.hid (Frm.refl (fun _ => False) w)
 obtain ⟨n, hn⟩ := nth_some (l := s.l) (f := a) (by simpa [inP] using ha)
 obtain ⟨l0, l1⟩ := nth_lt hn
 have ht : typeF s a = n.t := by unfold typeF; rw [hn]
 have HN := Lib.hid hn
 rcases hl with ⟨_, h⟩ | ⟨g, o, cap, rfl, hc1, hc2, hc⟩
 ·cases h
 have c0 : w.cell? ⟨g, o, none⟩ = _ := hc 0 a rfl
 have c1 := hc 1 b rfl
 clear hE h ha hn hc hc1 hc2
 have hcl : clsF op = .tt := by subst hop; kernel_rfl
 have d0 : (op.toList == [105, 116, 101]) = false := by subst hop; kernel_rfl
 have d1 : (op.toList == [38, 38]) = false := by subst hop; kernel_rfl
 have d2 : (op.toList == [38]) = false := by subst hop; kernel_rfl
 have d3 : (op.toList == [124, 124]) = false := by subst hop; kernel_rfl
 have d4 : (op.toList == [124]) = false := by subst hop; kernel_rfl
 have d5 : (op.toList == [43]) = false := by subst hop; kernel_rfl
 have d6 : (op.toList == [45]) = false := by subst hop; kernel_rfl
 have d7 : (op.toList == [94]) = false := by subst hop; kernel_rfl
 have d8 : (op.toList == [60, 60]) = false := by subst hop; kernel_rfl
 have d9 : (op.toList == [62, 62]) = false := by subst hop; kernel_rfl
 have d10 : (op.toList == [42]) = false := by subst hop; kernel_rfl
 have d11 : (op.toList == [47]) = false := by subst hop; kernel_rfl
 have d12 : (op.toList == [61, 61]) = false := by subst hop; kernel_rfl
 have d13 : (op.toList == [60, 61]) = false := by subst hop; kernel_rfl
 have d14 : (op.toList == [62, 61]) = true := by subst hop; kernel_rfl
 clear hop
 have hs : Hid (simple2F s op a b = (((truthF s true).1, a == b), (truthF s true).2)) := Lib.hid (by unfold simple2F; rw [hcl])
 clear hcl
 go_enter Tryz.func43, Tryz.ntmps43
 go_wp2
 go_quiet (fail)
 obtain ⟨w1, hw1⟩ : ∃ w1, w1 = w.drewN nq := ⟨_, rfl⟩
 rw [← hw1]
 have HF := Lib.hid (show Frm (fun _ => False) w w1 by rw [hw1]; exact HF.out.drewN _)
 clear hw1
 go_wp2_with fail
 refine (HT.out true _ HF.out).mono ?_
 rintro e w2 ⟨rfl, own2, hP2, hM2⟩
 have HP2 := Lib.hid hP2
 have HM2 := Lib.hid hM2
 clear hP2 hM2
 go_wp2
 go_ret2
 rw [hs.out]
 exact ⟨rfl, own2, HP2.out, moves_pre HF.out HM2.out⟩
set_option maxRecDepth 100000 in
set_option maxHeartbeats 2000000 in
theorem simpleNe {w : World} {own : Nat → Prop} {p : Nat} {s : TPool} (hE : Env w) (h : PoolAt w own p s) (op : ByteArray) (a b : Int) (lv : Value) (hl : Sees w (Value.int .i64) lv [a, b]) (ha : inP s a = true) (hroom : s.l.length < 4294967296) (hop : op = ⟨#[33, 61]⟩) : Calls Tryz.prog 43 #[.pointer (some ⟨p, 0, none⟩), .string op, lv] w (TPost own w p (.tuple #[.int .i64 (simple2F s op a b).1.1, .bool (simple2F s op a b).1.2]) (simple2F s op a b).2) := by
 have H0 := Lib.hid (fun f w1 (hf : Frm (fun _ => False) w w1) => isNum_lit (hE.frm0 hf) (h.frm0 hf) f 0 0 rfl (by decide))
 have H1 := Lib.hid (fun f w1 (hf : Frm (fun _ => False) w w1) => isNum_lit (hE.frm0 hf) (h.frm0 hf) f 1 1 rfl (by decide))
 have HME := Lib.hid (fun w1 (hf : Frm (fun _ => False) w w1) => meet_calls (hE.frm0 hf) (h.frm0 hf) a b)
 have HJO := Lib.hid (fun w1 (hf : Frm (fun _ => False) w w1) => join_calls (hE.frm0 hf) (h.frm0 hf) a b)
 have HT := Lib.hid (fun x w1 (hf : Frm (fun _ => False) w w1) => truth_calls (hE.frm0 hf) (h.frm0 hf) x hroom)
 have HNU := Lib.hid (fun t w1 (hf : Frm (fun _ => False) w w1) => num_lit (hE.frm0 hf) (h.frm0 hf) t 0 0 rfl (by decide) hroom)
 have HP := Lib.hid h
 have HF := Lib.hid (Frm.refl (fun _ => False) w)
 obtain ⟨n, hn⟩ := nth_some (l := s.l) (f := a) (by simpa [inP] using ha)
 obtain ⟨l0, l1⟩ := nth_lt hn
 have ht : typeF s a = n.t := by unfold typeF; rw [hn]
 have HN := Lib.hid hn
 rcases hl with ⟨_, h⟩ | ⟨g, o, cap, rfl, hc1, hc2, hc⟩
 ·cases h
 have c0 : w.cell? ⟨g, o, none⟩ = _ := hc 0 a rfl
 have c1 := hc 1 b rfl
 clear hE h ha hn hc hc1 hc2
 have hcl : clsF op = .ff := by subst hop; kernel_rfl
 have d0 : (op.toList == [105, 116, 101]) = false := by subst hop; kernel_rfl
 have d1 : (op.toList == [38, 38]) = false := by subst hop; kernel_rfl
 have d2 : (op.toList == [38]) = false := by subst hop; kernel_rfl
 have d3 : (op.toList == [124, 124]) = false := by subst hop; kernel_rfl
 have d4 : (op.toList == [124]) = false := by subst hop; kernel_rfl
 have d5 : (op.toList == [43]) = false := by subst hop; kernel_rfl
 have d6 : (op.toList == [45]) = false := by subst hop; kernel_rfl
 have d7 : (op.toList == [94]) = false := by subst hop; kernel_rfl
 have d8 : (op.toList == [60, 60]) = false := by subst hop; kernel_rfl
 have d9 : (op.toList == [62, 62]) = false := by subst hop; kernel_rfl
 have d10 : (op.toList == [42]) = false := by subst hop; kernel_rfl
 have d11 : (op.toList == [47]) = false := by subst hop; kernel_rfl
 have d12 : (op.toList == [61, 61]) = false := by subst hop; kernel_rfl
 have d13 : (op.toList == [60, 61]) = false := by subst hop; kernel_rfl
 have d14 : (op.toList == [62, 61]) = false := by subst hop; kernel_rfl
 have d15 : (op.toList == [33, 61]) = true := by subst hop; kernel_rfl
 clear hop
 have hs : Hid (simple2F s op a b = (((truthF s false).1, a == b), (truthF s false).2)) := Lib.hid (by unfold simple2F; rw [hcl])
 clear hcl
 go_enter Tryz.func43, Tryz.ntmps43
 go_wp2
 go_quiet (fail)
 obtain ⟨w1, hw1⟩ : ∃ w1, w1 = w.drewN nq := ⟨_, rfl⟩
 rw [← hw1]
 have HF := Lib.hid (show Frm (fun _ => False) w w1 by rw [hw1]; exact HF.out.drewN _)
 clear hw1
 go_wp2_with fail
 refine (HT.out false _ HF.out).mono ?_
 rintro e w2 ⟨rfl, own2, hP2, hM2⟩
 have HP2 := Lib.hid hP2
 have HM2 := Lib.hid hM2
 clear hP2 hM2
 go_wp2
 go_ret2
 rw [hs.out]
 exact ⟨rfl, own2, HP2.out, moves_pre HF.out HM2.out⟩
set_option maxRecDepth 100000 in
set_option maxHeartbeats 2000000 in
theorem simpleLt {w : World} {own : Nat → Prop} {p : Nat} {s : TPool} (hE : Env w) (h : PoolAt w own p s) (op : ByteArray) (a b : Int) (lv : Value) (hl : Sees w (Value.int .i64) lv [a, b]) (ha : inP s a = true) (hroom : s.l.length < 4294967296) (hop : op = ⟨#[60]⟩) : Calls Tryz.prog 43 #[.pointer (some ⟨p, 0, none⟩), .string op, lv] w (TPost own w p (.tuple #[.int .i64 (simple2F s op a b).1.1, .bool (simple2F s op a b).1.2]) (simple2F s op a b).2) := by
 have H0 := Lib.hid (fun f w1 (hf : Frm (fun _ => False) w w1) => isNum_lit (hE.frm0 hf) (h.frm0 hf) f 0 0 rfl (by decide))
 have H1 := Lib.hid (fun f w1 (hf : Frm (fun _ => False) w w1) => isNum_lit (hE.frm0 hf) (h.frm0 hf) f 1 1 rfl (by decide))
 have HME := Lib.hid (fun w1 (hf : Frm (fun _ => False) w w1) => meet_calls (hE.frm0 hf) (h.frm0 hf) a b)
 have HJO := Lib.hid (fun w1 (hf : Frm (fun _ => False) w w1) => join_calls (hE.frm0 hf) (h.frm0 hf) a b)
 have HT := Lib.hid (fun x w1 (hf : Frm (fun _ => False) w w1) => truth_calls (hE.frm0 hf) (h.frm0 hf) x hroom)
 have HNU := Lib.hid (fun t w1 (hf : Frm (fun _ => False) w w1) => num_lit (hE.frm0 hf) (h.frm0 hf) t 0 0 rfl (by decide) hroom)
 have HP := Lib.hid h
 have HF := Lib.hid (Frm.refl (fun _ => False) w)
 obtain ⟨n, hn⟩ := nth_some (l := s.l) (f := a) (by simpa [inP] using ha)
 obtain ⟨l0, l1⟩ := nth_lt hn
 have ht : typeF s a = n.t := by unfold typeF; rw [hn]
 have HN := Lib.hid hn
 rcases hl with ⟨_, h⟩ | ⟨g, o, cap, rfl, hc1, hc2, hc⟩
 ·cases h
 have c0 : w.cell? ⟨g, o, none⟩ = _ := hc 0 a rfl
 have c1 := hc 1 b rfl
 clear hE h ha hn hc hc1 hc2
 have hcl : clsF op = .ff := by subst hop; kernel_rfl
 have d0 : (op.toList == [105, 116, 101]) = false := by subst hop; kernel_rfl
 have d1 : (op.toList == [38, 38]) = false := by subst hop; kernel_rfl
 have d2 : (op.toList == [38]) = false := by subst hop; kernel_rfl
 have d3 : (op.toList == [124, 124]) = false := by subst hop; kernel_rfl
 have d4 : (op.toList == [124]) = false := by subst hop; kernel_rfl
 have d5 : (op.toList == [43]) = false := by subst hop; kernel_rfl
 have d6 : (op.toList == [45]) = false := by subst hop; kernel_rfl
 have d7 : (op.toList == [94]) = false := by subst hop; kernel_rfl
 have d8 : (op.toList == [60, 60]) = false := by subst hop; kernel_rfl
 have d9 : (op.toList == [62, 62]) = false := by subst hop; kernel_rfl
 have d10 : (op.toList == [42]) = false := by subst hop; kernel_rfl
 have d11 : (op.toList == [47]) = false := by subst hop; kernel_rfl
 have d12 : (op.toList == [61, 61]) = false := by subst hop; kernel_rfl
 have d13 : (op.toList == [60, 61]) = false := by subst hop; kernel_rfl
 have d14 : (op.toList == [62, 61]) = false := by subst hop; kernel_rfl
 have d15 : (op.toList == [33, 61]) = false := by subst hop; kernel_rfl
 have d16 : (op.toList == [60]) = true := by subst hop; kernel_rfl
 clear hop
 have hs : Hid (simple2F s op a b = (((truthF s false).1, a == b), (truthF s false).2)) := Lib.hid (by unfold simple2F; rw [hcl])
 clear hcl
 go_enter Tryz.func43, Tryz.ntmps43
 go_wp2
 go_quiet (fail)
 obtain ⟨w1, hw1⟩ : ∃ w1, w1 = w.drewN nq := ⟨_, rfl⟩
 rw [← hw1]
 have HF := Lib.hid (show Frm (fun _ => False) w w1 by rw [hw1]; exact HF.out.drewN _)
 clear hw1
 go_wp2_with fail
 refine (HT.out false _ HF.out).mono ?_
 rintro e w2 ⟨rfl, own2, hP2, hM2⟩
 have HP2 := Lib.hid hP2
 have HM2 := Lib.hid hM2
 clear hP2 hM2
 go_wp2
 go_ret2
 rw [hs.out]
 exact ⟨rfl, own2, HP2.out, moves_pre HF.out HM2.out⟩
set_option maxRecDepth 100000 in
set_option maxHeartbeats 2000000 in
theorem simpleGt {w : World} {own : Nat → Prop} {p : Nat} {s : TPool} (hE : Env w) (h : PoolAt w own p s) (op : ByteArray) (a b : Int) (lv : Value) (hl : Sees w (Value.int .i64) lv [a, b]) (ha : inP s a = true) (hroom : s.l.length < 4294967296) (hop : op = ⟨#[62]⟩) : Calls Tryz.prog 43 #[.pointer (some ⟨p, 0, none⟩), .string op, lv] w (TPost own w p (.tuple #[.int .i64 (simple2F s op a b).1.1, .bool (simple2F s op a b).1.2]) (simple2F s op a b).2) := by
 have H0 := Lib.hid (fun f w1 (hf : Frm (fun _ => False) w w1) => isNum_lit (hE.frm0 hf) (h.frm0 hf) f 0 0 rfl (by decide))
 have H1 := Lib.hid (fun f w1 (hf : Frm (fun _ => False) w w1) => isNum_lit (hE.frm0 hf) (h.frm0 hf) f 1 1 rfl (by decide))
 have HME := Lib.hid (fun w1 (hf : Frm (fun _ => False) w w1) => meet_calls (hE.frm0 hf) (h.frm0 hf) a b)
 have HJO := Lib.hid (fun w1 (hf : Frm (fun _ => False) w w1) => join_calls (hE.frm0 hf) (h.frm0 hf) a b)
 have HT := Lib.hid (fun x w1 (hf : Frm (fun _ => False) w w1) => truth_calls (hE.frm0 hf) (h.frm0 hf) x hroom)
 have HNU := Lib.hid (fun t w1 (hf : Frm (fun _ => False) w w1) => num_lit (hE.frm0 hf) (h.frm0 hf) t 0 0 rfl (by decide) hroom)
 have HP := Lib.hid h
 have HF := Lib.hid (Frm.refl (fun _ => False) w)
 obtain ⟨n, hn⟩ := nth_some (l := s.l) (f := a) (by simpa [inP] using ha)
 obtain ⟨l0, l1⟩ := nth_lt hn
 have ht : typeF s a = n.t := by unfold typeF; rw [hn]
 have HN := Lib.hid hn
 rcases hl with ⟨_, h⟩ | ⟨g, o, cap, rfl, hc1, hc2, hc⟩
 ·cases h
 have c0 : w.cell? ⟨g, o, none⟩ = _ := hc 0 a rfl
 have c1 := hc 1 b rfl
 clear hE h ha hn hc hc1 hc2
 have hcl : clsF op = .ff := by subst hop; kernel_rfl
 have d0 : (op.toList == [105, 116, 101]) = false := by subst hop; kernel_rfl
 have d1 : (op.toList == [38, 38]) = false := by subst hop; kernel_rfl
 have d2 : (op.toList == [38]) = false := by subst hop; kernel_rfl
 have d3 : (op.toList == [124, 124]) = false := by subst hop; kernel_rfl
 have d4 : (op.toList == [124]) = false := by subst hop; kernel_rfl
 have d5 : (op.toList == [43]) = false := by subst hop; kernel_rfl
 have d6 : (op.toList == [45]) = false := by subst hop; kernel_rfl
 have d7 : (op.toList == [94]) = false := by subst hop; kernel_rfl
 have d8 : (op.toList == [60, 60]) = false := by subst hop; kernel_rfl
 have d9 : (op.toList == [62, 62]) = false := by subst hop; kernel_rfl
 have d10 : (op.toList == [42]) = false := by subst hop; kernel_rfl
 have d11 : (op.toList == [47]) = false := by subst hop; kernel_rfl
 have d12 : (op.toList == [61, 61]) = false := by subst hop; kernel_rfl
 have d13 : (op.toList == [60, 61]) = false := by subst hop; kernel_rfl
 have d14 : (op.toList == [62, 61]) = false := by subst hop; kernel_rfl
 have d15 : (op.toList == [33, 61]) = false := by subst hop; kernel_rfl
 have d16 : (op.toList == [60]) = false := by subst hop; kernel_rfl
 have d17 : (op.toList == [62]) = true := by subst hop; kernel_rfl
 clear hop
 have hs : Hid (simple2F s op a b = (((truthF s false).1, a == b), (truthF s false).2)) := Lib.hid (by unfold simple2F; rw [hcl])
 clear hcl
 go_enter Tryz.func43, Tryz.ntmps43
 go_wp2
 go_quiet (fail)
 obtain ⟨w1, hw1⟩ : ∃ w1, w1 = w.drewN nq := ⟨_, rfl⟩
 rw [← hw1]
 have HF := Lib.hid (show Frm (fun _ => False) w w1 by rw [hw1]; exact HF.out.drewN _)
 clear hw1
 go_wp2_with fail
 refine (HT.out false _ HF.out).mono ?_
 rintro e w2 ⟨rfl, own2, hP2, hM2⟩
 have HP2 := Lib.hid hP2
 have HM2 := Lib.hid hM2
 clear hP2 hM2
 go_wp2
 go_ret2
 rw [hs.out]
 exact ⟨rfl, own2, HP2.out, moves_pre HF.out HM2.out⟩
set_option maxRecDepth 100000 in
set_option maxHeartbeats 2000000 in
theorem simpleOther {w : World} {own : Nat → Prop} {p : Nat} {s : TPool} (hE : Env w) (h : PoolAt w own p s) (op : ByteArray) (a b : Int) (lv : Value) (hl : Sees w (Value.int .i64) lv [a, b]) (ha : inP s a = true) (hroom : s.l.length < 4294967296) (hcl : clsF op = .other) (hi : op ≠ ⟨#[105, 116, 101]⟩) : Calls Tryz.prog 43 #[.pointer (some ⟨p, 0, none⟩), .string op, lv] w (TPost own w p (.tuple #[.int .i64 (simple2F s op a b).1.1, .bool (simple2F s op a b).1.2]) (simple2F s op a b).2) := by
 have H0 := Lib.hid (fun f w1 (hf : Frm (fun _ => False) w w1) => isNum_lit (hE.frm0 hf) (h.frm0 hf) f 0 0 rfl (by decide))
 have H1 := Lib.hid (fun f w1 (hf : Frm (fun _ => False) w w1) => isNum_lit (hE.frm0 hf) (h.frm0 hf) f 1 1 rfl (by decide))
 have HME := Lib.hid (fun w1 (hf : Frm (fun _ => False) w w1) => meet_calls (hE.frm0 hf) (h.frm0 hf) a b)
 have HJO := Lib.hid (fun w1 (hf : Frm (fun _ => False) w w1) => join_calls (hE.frm0 hf) (h.frm0 hf) a b)
 have HT := Lib.hid (fun x w1 (hf : Frm (fun _ => False) w w1) => truth_calls (hE.frm0 hf) (h.frm0 hf) x hroom)
 have HNU := Lib.hid (fun t w1 (hf : Frm (fun _ => False) w w1) => num_lit (hE.frm0 hf) (h.frm0 hf) t 0 0 rfl (by decide) hroom)
 have HP := Lib.hid h
 have HF := Lib.hid (Frm.refl (fun _ => False) w)
 obtain ⟨n, hn⟩ := nth_some (l := s.l) (f := a) (by simpa [inP] using ha)
 obtain ⟨l0, l1⟩ := nth_lt hn
 have ht : typeF s a = n.t := by unfold typeF; rw [hn]
 have HN := Lib.hid hn
 rcases hl with ⟨_, h⟩ | ⟨g, o, cap, rfl, hc1, hc2, hc⟩
 ·cases h
 have c0 : w.cell? ⟨g, o, none⟩ = _ := hc 0 a rfl
 have c1 := hc 1 b rfl
 clear hE h ha hn hc hc1 hc2
 have hs : Hid (simple2F s op a b = ((0, false), s)) := Lib.hid (by unfold simple2F; rw [hcl])
 have d0 : (op.toList == [105, 116, 101]) = false := by rw [eqS]; exact decide_eq_false hi
 have d1 : (op.toList == [38, 38]) = false := by
  rw [eqS]
  refine decide_eq_false (fun e => ?_)
  rw [e, show clsF ⟨[38, 38].toArray⟩ = .meet from by kernel_rfl] at hcl
  cases hcl
 have d2 : (op.toList == [38]) = false := by
  rw [eqS]
  refine decide_eq_false (fun e => ?_)
  rw [e, show clsF ⟨[38].toArray⟩ = .meet from by kernel_rfl] at hcl
  cases hcl
 have d3 : (op.toList == [124, 124]) = false := by
  rw [eqS]
  refine decide_eq_false (fun e => ?_)
  rw [e, show clsF ⟨[124, 124].toArray⟩ = .join from by kernel_rfl] at hcl
  cases hcl
 have d4 : (op.toList == [124]) = false := by
  rw [eqS]
  refine decide_eq_false (fun e => ?_)
  rw [e, show clsF ⟨[124].toArray⟩ = .join from by kernel_rfl] at hcl
  cases hcl
 have d5 : (op.toList == [43]) = false := by
  rw [eqS]
  refine decide_eq_false (fun e => ?_)
  rw [e, show clsF ⟨[43].toArray⟩ = .plus from by kernel_rfl] at hcl
  cases hcl
 have d6 : (op.toList == [45]) = false := by
  rw [eqS]
  refine decide_eq_false (fun e => ?_)
  rw [e, show clsF ⟨[45].toArray⟩ = .minus from by kernel_rfl] at hcl
  cases hcl
 have d7 : (op.toList == [94]) = false := by
  rw [eqS]
  refine decide_eq_false (fun e => ?_)
  rw [e, show clsF ⟨[94].toArray⟩ = .xor from by kernel_rfl] at hcl
  cases hcl
 have d8 : (op.toList == [60, 60]) = false := by
  rw [eqS]
  refine decide_eq_false (fun e => ?_)
  rw [e, show clsF ⟨[60, 60].toArray⟩ = .shift from by kernel_rfl] at hcl
  cases hcl
 have d9 : (op.toList == [62, 62]) = false := by
  rw [eqS]
  refine decide_eq_false (fun e => ?_)
  rw [e, show clsF ⟨[62, 62].toArray⟩ = .shift from by kernel_rfl] at hcl
  cases hcl
 have d10 : (op.toList == [42]) = false := by
  rw [eqS]
  refine decide_eq_false (fun e => ?_)
  rw [e, show clsF ⟨[42].toArray⟩ = .mul from by kernel_rfl] at hcl
  cases hcl
 have d11 : (op.toList == [47]) = false := by
  rw [eqS]
  refine decide_eq_false (fun e => ?_)
  rw [e, show clsF ⟨[47].toArray⟩ = .mul from by kernel_rfl] at hcl
  cases hcl
 have d12 : (op.toList == [61, 61]) = false := by
  rw [eqS]
  refine decide_eq_false (fun e => ?_)
  rw [e, show clsF ⟨[61, 61].toArray⟩ = .tt from by kernel_rfl] at hcl
  cases hcl
 have d13 : (op.toList == [60, 61]) = false := by
  rw [eqS]
  refine decide_eq_false (fun e => ?_)
  rw [e, show clsF ⟨[60, 61].toArray⟩ = .tt from by kernel_rfl] at hcl
  cases hcl
 have d14 : (op.toList == [62, 61]) = false := by
  rw [eqS]
  refine decide_eq_false (fun e => ?_)
  rw [e, show clsF ⟨[62, 61].toArray⟩ = .tt from by kernel_rfl] at hcl
  cases hcl
 have d15 : (op.toList == [33, 61]) = false := by
  rw [eqS]
  refine decide_eq_false (fun e => ?_)
  rw [e, show clsF ⟨[33, 61].toArray⟩ = .ff from by kernel_rfl] at hcl
  cases hcl
 have d16 : (op.toList == [60]) = false := by
  rw [eqS]
  refine decide_eq_false (fun e => ?_)
  rw [e, show clsF ⟨[60].toArray⟩ = .ff from by kernel_rfl] at hcl
  cases hcl
 have d17 : (op.toList == [62]) = false := by
  rw [eqS]
  refine decide_eq_false (fun e => ?_)
  rw [e, show clsF ⟨[62].toArray⟩ = .ff from by kernel_rfl] at hcl
  cases hcl
 clear hcl hi
 go_enter Tryz.func43, Tryz.ntmps43
 go_wp2
 go_quiet (fail)
 obtain ⟨w1, hw1⟩ : ∃ w1, w1 = w.drewN nq := ⟨_, rfl⟩
 rw [← hw1]
 have HF := Lib.hid (show Frm (fun _ => False) w w1 by rw [hw1]; exact HF.out.drewN _)
 clear hw1
 go_wp2
 go_ret2
 rw [hs.out]
 exact TPost.same HP.out rfl HF.out
theorem simple2_calls {w : World} {own : Nat → Prop} {p : Nat} {s : TPool} (hE : Env w) (h : PoolAt w own p s) (op : ByteArray) (a b : Int) (lv : Value) (hl : Sees w (Value.int .i64) lv [a, b]) (ha : inP s a = true) (hroom : s.l.length < 4294967296) (hi : op ≠ ⟨#[105, 116, 101]⟩) : Calls Tryz.prog 43 #[.pointer (some ⟨p, 0, none⟩), .string op, lv] w (TPost own w p (.tuple #[.int .i64 (simple2F s op a b).1.1, .bool (simple2F s op a b).1.2]) (simple2F s op a b).2) := by
 by_cases hAA : op = ⟨#[38, 38]⟩
 ·exact simpleAA hE h op a b lv hl ha hroom hAA
 by_cases hA : op = ⟨#[38]⟩
 ·exact simpleA hE h op a b lv hl ha hroom hA
 by_cases hOO : op = ⟨#[124, 124]⟩
 ·exact simpleOO hE h op a b lv hl ha hroom hOO
 by_cases hO : op = ⟨#[124]⟩
 ·exact simpleO hE h op a b lv hl ha hroom hO
 by_cases hAdd : op = ⟨#[43]⟩
 ·exact simpleAdd hE h op a b lv hl ha hroom hAdd
 by_cases hSub : op = ⟨#[45]⟩
 ·exact simpleSub hE h op a b lv hl ha hroom hSub
 by_cases hXor : op = ⟨#[94]⟩
 ·exact simpleXor hE h op a b lv hl ha hroom hXor
 by_cases hShl : op = ⟨#[60, 60]⟩
 ·exact simpleShl hE h op a b lv hl ha hroom hShl
 by_cases hShr : op = ⟨#[62, 62]⟩
 ·exact simpleShr hE h op a b lv hl ha hroom hShr
 by_cases hMul : op = ⟨#[42]⟩
 ·exact simpleMul hE h op a b lv hl ha hroom hMul
 by_cases hQuo : op = ⟨#[47]⟩
 ·exact simpleQuo hE h op a b lv hl ha hroom hQuo
 by_cases hEq : op = ⟨#[61, 61]⟩
 ·exact simpleEq hE h op a b lv hl ha hroom hEq
 by_cases hLe : op = ⟨#[60, 61]⟩
 ·exact simpleLe hE h op a b lv hl ha hroom hLe
 by_cases hGe : op = ⟨#[62, 61]⟩
 ·exact simpleGe hE h op a b lv hl ha hroom hGe
 by_cases hNe : op = ⟨#[33, 61]⟩
 ·exact simpleNe hE h op a b lv hl ha hroom hNe
 by_cases hLt : op = ⟨#[60]⟩
 ·exact simpleLt hE h op a b lv hl ha hroom hLt
 by_cases hGt : op = ⟨#[62]⟩
 ·exact simpleGt hE h op a b lv hl ha hroom hGt
 refine simpleOther hE h op a b lv hl ha hroom ?_ hi
 unfold clsF clsL
 simp only [mget]
 rw [if_neg (Ne.symm hAA)]
 rw [if_neg (Ne.symm hA)]
 rw [if_neg (Ne.symm hOO)]
 rw [if_neg (Ne.symm hO)]
 rw [if_neg (Ne.symm hAdd)]
 rw [if_neg (Ne.symm hSub)]
 rw [if_neg (Ne.symm hXor)]
 rw [if_neg (Ne.symm hShl)]
 rw [if_neg (Ne.symm hShr)]
 rw [if_neg (Ne.symm hMul)]
 rw [if_neg (Ne.symm hQuo)]
 rw [if_neg (Ne.symm hEq)]
 rw [if_neg (Ne.symm hLe)]
 rw [if_neg (Ne.symm hGe)]
 rw [if_neg (Ne.symm hNe)]
 rw [if_neg (Ne.symm hLt)]
 rw [if_neg (Ne.symm hGt)]
 rfl
end TmW
end Go.Proofs.YtbbajekecppioaaGreatDoor
