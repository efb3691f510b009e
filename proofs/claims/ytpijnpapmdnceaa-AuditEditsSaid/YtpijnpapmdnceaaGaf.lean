/- strings.Repeat at this seat, by the library's contract: its numbers (printed by gen_rep.py). Records and their bytes. Append to what a string was turned into: in terms of cells. A chain with a record more. The document's bytes of a record. The document's bytes of a record, all of them (printed by gen_aude.py). -/
import Derived.Shelf.Strings.Repeat
import Derived.Test.YtpijnpapmdnceaaRows
import Derived.KernelRfl
import Derived.Test.YtpijnpapmdnceaaGae
import Derived.Test.YtpijnpapmdnceaaGad
import Derived.Test.YtpijnpapmdnceaaGaa
import Derived.ArgAppend
import Derived.Laws.IdiomStrings

namespace Go.Proofs.Ytpijnpapmdnceaa
open Go.Shelf Go.RowKit Go.Proofs

def repRen : Ren :=
  {
    f := fun x =>
      match x with
      | 105 => 51
      | 212 => 57
      | 99 => 58
      | 165 => 59
      | 166 => 60
      | 170 => 61
      | 169 => 62
      | 263 => 63
      | 264 => 64
      | 206 => 65
      | 240 => 66
      | 241 => 67
      | 276 => 68
      | 277 => 69
      | n => n,
    t := fun x =>
      match x with
      | 9 => 9
      | 3 => 3
      | 4 => 4
      | 20 => 20
      | 0 => 0
      | 46 => 29
      | 109 => 85
      | 5 => 5
      | 72 => 90
      | 76 => 94
      | 51 => 97
      | 146 => 98
      | 53 => 27
      | 148 => 100
      | 70 => 88
      | 37 => 22
      | 75 => 93
      | 127 => 102
      | 164 => 103
      | 80 => 65
      | n => n,
    g := fun x =>
      x }
theorem repLays : Lays.n105 Try.prog repRen :=
  { mixed := Eq.refl true, f99 := Try.func58.trans (congrArg some rfl),
    f105 := Try.func51.trans (congrArg some rfl),
    f165 := Try.func59.trans (congrArg some rfl),
    f166 := Try.func60.trans (congrArg some rfl),
    f169 := Try.func62.trans (congrArg some rfl),
    f170 := Try.func61.trans (congrArg some rfl),
    f206 := Try.func65.trans (congrArg some rfl),
    f212 := Try.func57.trans (congrArg some rfl),
    f240 := Try.func66.trans (congrArg some rfl),
    f241 := Try.func67.trans (congrArg some rfl),
    f263 := Try.func63.trans (congrArg some rfl),
    f264 := Try.func64.trans (congrArg some rfl),
    f276 := Try.func68.trans (congrArg some rfl),
    f277 := Try.func69.trans (congrArg some rfl), t0 := Try.underlying0,
    a0 := Try.isAgg0, z0 := Try.sizeOf0, v0 := Try.zeroValue0, t3 := Try.underlying3, a3 := Try.isAgg3, z3 := Try.sizeOf3,
    v3 := Try.zeroValue3, t4 := Try.underlying4, a4 := Try.isAgg4, z4 := Try.sizeOf4, v4 := Try.zeroValue4,
    t5 := Try.underlying5, a5 := Try.isAgg5, z5 := Try.sizeOf5, v5 := Try.zeroValue5, t9 := Try.underlying9,
    a9 := Try.isAgg9, z9 := Try.sizeOf9, v9 := Try.zeroValue9, t20 := Try.underlying20, a20 := Try.isAgg20,
    z20 := Try.sizeOf20, v20 := Try.zeroValue20, t37 := Try.underlying22, a37 := Try.isAgg22, z37 := Try.sizeOf22,
    v37 := Try.zeroValue22, t46 := Try.underlying29, a46 := Try.isAgg29, z46 := Try.sizeOf29, v46 := Try.zeroValue29,
    t51 := Try.underlying97, a51 := Try.isAgg97, z51 := Try.sizeOf97, v51 := Try.zeroValue97, t53 := Try.underlying27,
    a53 := Try.isAgg27, z53 := Try.sizeOf27, v53 := Try.zeroValue27, t70 := Try.underlying88, a70 := Try.isAgg88,
    z70 := Try.sizeOf88, v70 := Try.zeroValue88, t72 := Try.underlying90, a72 := Try.isAgg90, z72 := Try.sizeOf90,
    v72 := Try.zeroValue90, t75 := Try.underlying93, a75 := Try.isAgg93, z75 := Try.sizeOf93, v75 := Try.zeroValue93,
    t76 := Try.underlying94, a76 := Try.isAgg94, z76 := Try.sizeOf94, v76 := Try.zeroValue94, t109 := Try.underlying85,
    a109 := Try.isAgg85, z109 := Try.sizeOf85, v109 := Try.zeroValue85, t127 := Try.underlying102, a127 := Try.isAgg102,
    z127 := Try.sizeOf102, v127 := Try.zeroValue102, t146 := Try.underlying98, a146 := Try.isAgg98, z146 := Try.sizeOf98,
    v146 := Try.zeroValue98, t148 := Try.underlying100, a148 := Try.isAgg100, z148 := Try.sizeOf100,
    v148 := Try.zeroValue100, t164 := Try.underlying103, a164 := Try.isAgg103, z164 := Try.sizeOf103,
    v164 := Try.zeroValue103 }
theorem repExtra : Builder.Extra Try.prog repRen where
  sizeBuilder := by kernel_rfl
  liesBuilder := by kernel_rfl
  t5 := repLays.t5
  a5 := repLays.a5
  z5 := repLays.z5
  v5 := repLays.v5
  infoByte := by kernel_rfl
  cellsByte := by kernel_rfl
  sizeByte := by kernel_rfl
  neB5 := by decide
theorem repeat_any (w : World) :
    Calls Try.prog 51 #[.string ⟨#[0]⟩, .int .i64 32] w fun e w' => e = .returned (.string ⟨(Lib.repeatL [0] 32).toArray⟩) ∧ Below w.heap.size w w' :=
  Any.strings_Repeat repLays repExtra ⟨#[0]⟩ 32 w (by decide) (by decide)
end Go.Proofs.Ytpijnpapmdnceaa

namespace Go.Proofs.Ytpijnpapmdnceaa
open Go Go.RowKit

theorem start_any (w : World) : Calls Try.prog 37 #[] w fun e w' => e = .returned (bstr (List.replicate 32 0#8)) ∧ Keep (fun _ => False) w w' := by
  go_enter Try.func37, Try.ntmps37
  go_wp2_with fail
  refine (repeat_any w).mono ?_
  rintro _ w1 ⟨rfl, k1⟩
  have K1 := hid (Keep.of_below k1 (fun _ => False))
  clear k1
  go_wp2_with fail
  go_ret
  exact ⟨by rfl, K1.out⟩

/-- A record. -/
structure Rc where
  s : Int
  t : Int
  c : Int
  o : Int
  e : Int
  n : Int
  m : Int
  a : Int
  b : Int
  d : Int
deriving DecidableEq
def Rc.nums (r : Rc) : List Int := [r.s, r.t, r.c, r.o, r.e, r.n, r.m, r.a, r.b, r.d]
def Rc.cells (r : Rc) : List Value := r.nums.map (.int .i64)
def Rc.agg (r : Rc) : Value := .agg #[.int .i64 r.s, .int .i64 r.t, .int .i64 r.c, .int .i64 r.o, .int .i64 r.e, .int .i64 r.n, .int .i64 r.m, .int .i64 r.a, .int .i64 r.b, .int .i64 r.d]
def nb (n : Int) (k : Nat) : B8 := (BitVec.ofInt 64 n >>> (8 * k)).setWidth 8
def num8 (n : Int) (k : Nat) : List B8 := (List.range k).map (nb n)
def byl (l : List Int) : List B8 := l.flatMap fun n => num8 n 8
def Rc.byt (r : Rc) : List B8 := byl r.nums
theorem num8_succ (n : Int) (k : Nat) : num8 n (k + 1) = num8 n k ++ [nb n k] := by simp [num8, List.range_succ]
theorem num8_len (n : Int) (k : Nat) : (num8 n k).length = k := by simp [num8]
theorem byl_len : ∀ l : List Int, (byl l).length = 8 * l.length
  | [] => rfl
  | x :: l => by
    show (num8 x 8 ++ byl l).length = _
    rw [List.length_append, num8_len, byl_len l, List.length_cons]
    omega
theorem byl_snoc (l : List Int) (x : Int) : byl (l ++ [x]) = byl l ++ num8 x 8 := by simp [byl]
theorem byt_len (r : Rc) : r.byt.length = 80 := byl_len _
theorem u64_wrap (n : Int) : IntKind.u64.wrap n = ((BitVec.ofInt 64 n).toNat : Int) := by
  rw [BitVec.toNat_ofInt]
  simp [IntKind.wrap, IntKind.bits, IntKind.signed]
  omega
theorem nb_val (n : Int) (k : Nat) : ((BitVec.ofInt 64 n).toNat : Int) / 2 ^ (8 * k) % 256 = ((nb n k).toNat : Int) := byt_val _ _

theorem clip8_any {w : World} (a : Option Addr) (n c : Nat) (h : n ≤ c) :
    Calls Try.prog 42 #[.slice a n c] w fun e w' => e = .returned (.slice a n n) ∧ w = w' := by
  have h1 : (n : Int) ≤ (c : Int) := by omega
  go_enter Try.func42, Try.ntmps42
  go_wp2
  go_ret
  exact ⟨rfl, rfl⟩

set_option maxRecDepth 10000 in
set_option maxHeartbeats 1000000 in
theorem bytes_any (r : Rc) (w : World) :
    Calls Try.prog 27 #[r.agg] w fun e w' => ∃ a, e = .returned (.slice a 80 80) ∧ ReadY w' (.slice a 80 80) r.byt ∧ (∀ k, (Value.slice a 80 80).ownBlock = some k → w.heap.size ≤ k) ∧ Keep (fun _ => False) w w' := by
  go_enter Try.func27, Try.ntmps27
  unfold Rc.agg
  go_wp2_with fail
  obtain ⟨W0, hW0⟩ : ∃ W0, ((w.alloc (.cells #[.int .i64 r.s, .int .i64 r.t, .int .i64 r.c, .int .i64 r.o, .int .i64 r.e, .int .i64 r.n, .int .i64 r.m, .int .i64 r.a, .int .i64 r.b, .int .i64 r.d] 42)).alloc (.cells #[.int .i64 r.s, .int .i64 r.t, .int .i64 r.c, .int .i64 r.o, .int .i64 r.e, .int .i64 r.n, .int .i64 r.m, .int .i64 r.a, .int .i64 r.b, .int .i64 r.d] 3)) = W0 := ⟨_, rfl⟩
  have K0 : Keep (fun _ => False) w W0 := by rw [← hW0]; exact ((Keep.refl _ _).alloc _).alloc _
  have S0 : w.heap.size + 2 = W0.heap.size := by rw [← hW0, World.size_alloc, World.size_alloc]
  have C0 : ∀ j, j < 10 → W0.cell? ⟨w.heap.size + 1, j, none⟩ = some (.int .i64 (r.nums.getD j 0)) := fun j hj => by
    rw [← hW0, ← World.size_alloc w (.cells #[.int .i64 r.s, .int .i64 r.t, .int .i64 r.c, .int .i64 r.o, .int .i64 r.e, .int .i64 r.n, .int .i64 r.m, .int .i64 r.a, .int .i64 r.b, .int .i64 r.d] 42), World.cell?_alloc_new]
    have : j = 0 ∨ j = 1 ∨ j = 2 ∨ j = 3 ∨ j = 4 ∨ j = 5 ∨ j = 6 ∨ j = 7 ∨ j = 8 ∨ j = 9 := by omega
    rcases this with rfl | rfl | rfl | rfl | rfl | rfl | rfl | rfl | rfl | rfl <;> rfl
  have HK0 := hid K0
  have HC0 := hid C0
  have L10 : r.nums.length = 10 := rfl
  rw [hW0]
  clear K0 C0 hW0
  go_loopw [3, 35] (fun ov jv wr => ∃ (j : Nat) (a : Option Addr) (c n : Nat), j ≤ 10 ∧ n = 8 * j ∧ OwnY wr (.slice a n c) (byl (r.nums.take j)) ∧ (∀ k, (Value.slice a n c).ownBlock = some k → W0.heap.size ≤ k) ∧ Keep (fun _ => False) W0 wr ∧ ov = .slice a n c ∧ jv = .int .i64 j) (fun _ jv _ => 10 - (intOf jv).toNat)
  case atStart => exact ⟨0, none, 0, 0, by omega, rfl, OwnY.nil _, fun k hk => (by cases hk), Keep.refl _ _, rfl, rfl⟩
  case round =>
    obtain ⟨j, a, c, n, hj, hn, hO, hF, hK, rfl, rfl⟩ := hrel
    by_cases hlt : j < 10
    · have hji : (j : Int) < 10 := by omega
      obtain ⟨x, hx⟩ : ∃ x, r.nums.getD j 0 = x := ⟨_, rfl⟩
      have hc := HC0.out j hlt
      have c1 := (hK.cell (p := ⟨w.heap.size + 1, j, none⟩) (by dsimp only; omega) (fun h => h)).trans hc
      rw [hx] at c1
      have TK : Hid (r.nums.take (j + 1) = r.nums.take j ++ [x]) := hid (by
        rw [List.take_succ_eq_append_getElem (by omega), ← hx, List.getD_eq_getElem?_getD, List.getElem?_eq_getElem (by omega)]
        rfl)
      obtain ⟨L, hL⟩ : ∃ L, byl (r.nums.take j) = L := ⟨_, rfl⟩
      rw [hL] at hO
      have LL : L.length = n := by rw [← hL, byl_len, List.length_take]; omega
      have HLL := hid LL
      have HL := hid hL
      have HO := hid hO
      have HF := hid hF
      have KK := hid hK
      have HNJ := hid hn
      clear hO hF hK hc hx hL LL hn
      go_wp2_with fail
      go_loopw [3, 39] (fun ov iv wr2 => ∃ (i : Nat) (a : Option Addr) (c m : Nat), i ≤ 8 ∧ m = n + i ∧ OwnY wr2 (.slice a m c) (L ++ num8 x i) ∧ (∀ k, (Value.slice a m c).ownBlock = some k → W0.heap.size ≤ k) ∧ Keep (fun _ => False) W0 wr2 ∧ ov = .slice a m c ∧ iv = .int .i64 i) (fun _ iv _ => 8 - (intOf iv).toNat)
      case atStart => exact ⟨0, a, c, n, by omega, rfl, by rw [show num8 x 0 = [] from rfl, List.append_nil]; exact HO.out, HF.out, KK.out, rfl, rfl⟩
      case round =>
        obtain ⟨i, a, c, m, hi, hm, hO, hF, hK, rfl, rfl⟩ := hrel
        have ML : (L ++ num8 x i).length = m := by rw [List.length_append, num8_len, HLL.out, hm]
        have HO := hid hO
        have HF := hid hF
        have KK := hid hK
        have HML := hid ML
        have HM := hid hm
        clear hO hF hK ML
        by_cases hl8 : i < 8
        · have hii : (i : Int) < 8 := by omega
          have NB : ((nb x i).toNat : Int) = IntKind.u64.wrap x / 2 ^ (8 * i) % 256 := by rw [u64_wrap]; exact (nb_val x i).symm
          have hsrc := one_srcY wr (nb x i)
          rw [NB] at hsrc
          have hsz : (wr.alloc (.cells #[.int .u8 (IntKind.u64.wrap x / 2 ^ (8 * i) % 256)] 5)).heap.size = wr.heap.size + 1 := World.size_alloc _ _
          have K1 : Keep (fun _ => False) wr (wr.alloc (.cells #[.int .u8 (IntKind.u64.wrap x / 2 ^ (8 * i) % 256)] 5)) := (Keep.refl _ _).alloc _
          have hown := HO.out.keep K1 (fun _ _ h => h)
          clear NB hm
          go_wp2_with (at_builtin; refine wpList_plain rfl (fun K hK => wp_append_bytes _ (.tmp 42) (.tmp 49) rfl (.slice a m c) (L ++ num8 x i) rfl hown _ 1 [nb x i] rfl hsrc (by rw [HML.out, HM.out, HNJ.out]; omega) ?_))
          intro v1 w1 o1 f1 k1
          obtain ⟨a1, c1, hv1⟩ := o1.form
          have e1 : (L ++ (num8 x i ++ [nb x i])).length = m + 1 := by rw [← List.append_assoc, List.length_append, HML.out]; rfl
          rw [e1] at hv1
          clear e1
          subst hv1
          refine hK _ _ ?_
          clear hK K
          have K2 := hid ((KK.out.trans K1).then k1 (fun k hk => .inr (HF.out k hk)))
          have F2 : Hid (∀ k, (Value.slice a1 (m + 1) c1).ownBlock = some k → W0.heap.size ≤ k) := hid (fun k hk => (f1 k hk).elim (HF.out k) (fun h => by have := KK.out.size; omega))
          have O2 : Hid (OwnY w1 (.slice a1 (m + 1) c1) (L ++ num8 x (i + 1))) := hid (by rw [num8_succ]; exact o1)
          clear o1 f1 k1 hown hsrc K1 hsz
          go_wp2_with fail
          go_roundw
          case rel => exact ⟨i + 1, a1, c1, m + 1, by omega, by rw [HM.out]; omega, O2.out, F2.out, K2.out, rfl, by go_num⟩
          case measure => simp [intOf]; omega
        · obtain rfl : i = 8 := by omega
          clear hm
          go_wp2_with fail
          go_roundw
          case rel => exact ⟨j + 1, a, c, m, by omega, by rw [HM.out, HNJ.out]; omega, by rw [TK.out, byl_snoc, HL.out]; exact HO.out, HF.out, KK.out, rfl, by go_num⟩
          case measure => simp [intOf]; omega
    · obtain rfl : j = 10 := by omega
      have HO := hid hO
      have HF := hid hF
      have KK := hid hK
      clear hO hF hK
      subst hn
      have e80 : byl (r.nums.take 10) = r.byt := by rw [List.take_of_length_le (by rw [L10]; omega)]; rfl
      rw [e80] at HO
      obtain ⟨g, c', hv, h1, h2, h3⟩ := HO.out.block (by rw [byt_len]; omega)
      simp only [Value.slice.injEq] at hv
      obtain ⟨rfl, h4, rfl⟩ := hv
      rw [byt_len] at h1 h3
      go_wp2_with fail
      refine (clip8_any _ 80 c h1).mono ?_
      rintro _ _ ⟨rfl, rfl⟩
      go_wp2_with fail
      go_ret
      refine ⟨_, rfl, .inr ⟨g, 0, 80, by rw [byt_len], ?_, by rw [byt_len]; unfold maxLen; omega, fun i hi => ?_⟩, fun k hk => ?_, HK0.out.trans KK.out⟩
      · exact World.block_lt_of_cell? _ _ (h3 0 (by omega)).1
      · rw [byt_len] at hi
        rw [Nat.zero_add]
        exact (h3 i hi).1
      · have := HF.out k hk
        omega
end Go.Proofs.Ytpijnpapmdnceaa

namespace Go.Proofs.Ytpijnpapmdnceaa
open Go Go.RowKit

theorem Keep.setCells {F : Nat → Prop} {a : World} {b : Nat} (hb : F b) : ∀ (vs : List Value) (o : Nat) (w : World), Keep F a w → Keep F a (w.setCells b o vs)
  | [], _, _, h => h
  | v :: vs, o, w, h => by
    rw [World.setCells]
    exact Keep.setCells hb vs (o + 1) _ (h.setCell (p := ⟨b, o, none⟩) (.inl hb) v)
theorem gb_left (L N : List B8) (i : Nat) (h : i < L.length) : gb (L ++ N) i = gb L i := by
  unfold gb
  rw [List.getD_eq_getElem?_getD, List.getD_eq_getElem?_getD, List.getElem?_append_left h]
theorem gb_right (L N : List B8) (i : Nat) (h : L.length ≤ i) : gb (L ++ N) i = gb N (i - L.length) := by
  unfold gb
  rw [List.getD_eq_getElem?_getD, List.getD_eq_getElem?_getD, List.getElem?_append_right h]
theorem wp_append_conv (w : World) {o : Oper} {a : Act} {K : Act → World → Prop} {Q : Exit → Act → World → Prop} (s x : Operand)
    (ho : o.op = .call { callee := .builtin .append, args := #[s, x], argTypes := #[22, 22] })
    (g n c : Nat) (L : List B8) (hs : a.eval s = .slice (some ⟨g, 0, none⟩) n c) (hn : L.length = n) (hg : g < w.heap.size) (hnc : n ≤ c)
    (hL : ∀ i, i < n → w.cell? ⟨g, i, none⟩ = some (.int .u8 ((gb L i).toNat : Int)))
    (hR : ∀ j, n ≤ j → j < c → (w.cell? ⟨g, j, none⟩).isSome = true) (hF : ∀ j, j < c → w.frozen? ⟨g, j, none⟩ = false)
    (ad : Addr) (m c2 : Nat) (N : List B8) (hx : a.eval x = .slice (some ad) m c2) (hm : N.length = m) (hN : ∀ j u, (flat8 N)[j]? = some u → w.cell? (ad.add j) = some u) (hsm : n + m ≤ 100000)
    (h : ∀ v' w', ReadY w' v' (L ++ N) → Keep (fun k => k = g) w w' → K (a.put o.dst v') w') : o.wp Try.prog a w K Q := by
  obtain ⟨i0, hi, hz0, hz1, hz2⟩ := info_parts Try.infoY
  have hlN : (flat8 N).length = m * i0.size := by rw [flat8_length, hz1, hm, Nat.mul_one]
  have hLN : (L ++ N).length = n + m := by rw [List.length_append, hn, hm]
  by_cases hroom : n + m ≤ c
  · have hr := run_append_room_cells (P := Try.prog) w 22 o.type 5 i0 Try.underlying22 hi g 0 n c ad m c2 (flat8 N) hlN hN (flat8_one N) hroom
      (fun j hj => by
        rw [flat8_length, hm] at hj
        rw [hz1, Nat.mul_one, Nat.zero_add]
        exact hR (n + j) (by omega) (by omega))
      (fun j hj => by
        rw [flat8_length, hm] at hj
        rw [hz1, Nat.mul_one, Nat.zero_add]
        exact hF (n + j) (by omega))
    rw [hz1, Nat.mul_one, Nat.zero_add] at hr
    unfold Oper.wp
    simp [execOp, ho, resolve, invoke, builtin, hs, hx, hr, Result.andThen]
    refine h _ _ (.inr ⟨g, 0, c, by rw [hLN], ?_, by rw [hLN]; unfold maxLen; omega, fun i hi2 => ?_⟩) (Keep.setCells (F := fun k => k = g) rfl _ _ _ (Keep.refl _ _))
    · exact Nat.lt_of_lt_of_le hg (Keep.setCells (F := fun k => k = g) rfl (flat8 N) n w (Keep.refl _ _)).size
    · rw [hLN] at hi2
      rw [Nat.zero_add]
      by_cases hin : i < n
      · rw [World.cell?_setCells_out g (flat8 N) n w ⟨g, i, none⟩ (fun _ _ => .inl hin), gb_left L N i (by omega)]
        exact hL i hin
      · have := World.cell?_setCells_in g (flat8 N) n w (fun j hj => by
          rw [flat8_length, hm] at hj
          exact hR (n + j) (by omega) (by omega)) (i - n) (by rw [flat8_length]; omega)
        rw [show n + (i - n) = i from by omega] at this
        rw [this, gb_right L N i (by omega), hn]
        have h2 := flat8_get N (i - n) (by omega)
        rw [List.getElem?_eq_getElem (by rw [flat8_length]; omega)] at h2
        exact h2
  · have hr := run_append_grow (P := Try.prog) w 22 o.type 5 i0 (.int .u8 0) Try.underlying22 hi hz0 ⟨g, 0, none⟩ n c (flat8 L) (by rw [flat8_length, hz1, hn, Nat.mul_one])
      (fun j v hv => by
        have hj : j < L.length := by
          have := (List.getElem?_eq_some_iff.1 hv).1
          rwa [flat8_length] at this
        rw [flat8_get L j hj] at hv
        rw [add_off, Nat.zero_add, ← Option.some.inj hv]
        exact hL j (by omega))
      ad m c2 (flat8 N) hlN hN (by omega) (by omega) (growslice_fits (by omega) (by rw [hz2]; omega))
    unfold Oper.wp
    simp [execOp, ho, resolve, invoke, builtin, hs, hx, hr, Result.andThen]
    refine h _ _ (.inr ⟨w.heap.size, 0, _, by rw [hLN], ?_, by rw [hLN]; unfold maxLen; omega, fun i hi2 => ?_⟩) (((Keep.refl _ _).drew).alloc _)
    · exact Nat.lt_of_lt_of_eq (Nat.lt_succ_self w.heap.size) (World.size_alloc w.drew _).symm
    · rw [Nat.zero_add]
      refine (World.cell?_alloc_new w.drew _ _ _).trans ?_
      have hs2 : i < ((flat8 (L ++ N)).toArray).size := by
        rw [List.size_toArray, flat8_length]
        exact hi2
      have e2 := flat8_get (L ++ N) i hi2
      have e3 : ∀ Z : Array Value, ((flat8 (L ++ N)).toArray ++ Z)[i]? = some (.int .u8 ((gb (L ++ N) i).toNat : Int)) := fun Z => by
        rw [Array.getElem?_append_left hs2]
        simpa using e2
      rw [← flat8_append]
      exact e3 _
end Go.Proofs.Ytpijnpapmdnceaa

namespace Go.Proofs.Ytpijnpapmdnceaa
open Go Go.RowKit

/-- The chain behind a record. -/
def chn (h : List B8) (r : Rc) : List B8 := dgt (h ++ r.byt)
theorem chn_len (h : List B8) (r : Rc) : (chn h r).length = 32 := dgt_len _

/-- What a string was turned into. -/
structure ConvY (W : World) (g n c : Nat) (L : List B8) : Prop where
  lt : g < W.heap.size
  len : L.length = n
  le : n ≤ c
  cell : ∀ i, i < n → W.cell? ⟨g, i, none⟩ = some (.int .u8 ((gb L i).toNat : Int))
  room : ∀ j, n ≤ j → j < c → (W.cell? ⟨g, j, none⟩).isSome = true
  fro : ∀ j, j < c → W.frozen? ⟨g, j, none⟩ = false
theorem ConvY.keep {F : Nat → Prop} {W W' : World} {g n c : Nat} {L : List B8} (h : ConvY W g n c L) (hK : Keep F W W') (hF : ¬ F g) : ConvY W' g n c L :=
  ⟨Nat.lt_of_lt_of_le h.lt hK.size, h.len, h.le, fun i hi => (hK.cell (p := ⟨g, i, none⟩) h.lt hF).trans (h.cell i hi),
    fun j h1 h2 => by rw [hK.cell (p := ⟨g, j, none⟩) h.lt hF]; exact h.room j h1 h2, fun j h1 => (hK.frozen (p := ⟨g, j, none⟩) h.lt hF).trans (h.fro j h1)⟩
theorem conv_new (W : World) (L : List B8) : ConvY (W.drew.alloc (.cells (bytesRow (bya L) (grownCap W L.length 0 5)) 5 ((bytesRow (bya L) (grownCap W L.length 0 5)).size, (bytesRow (bya L) (grownCap W L.length 0 5)).size + 1))) W.heap.size L.length (grownCap W L.length 0 5) L := by
  have hc := grownCap_ge W L.length 0 5
  obtain ⟨c, hcc⟩ : ∃ c, grownCap W L.length 0 5 = c := ⟨_, rfl⟩
  rw [hcc] at hc ⊢
  have hz : (bya L).data.size = L.length := bya_size L
  have hsz : (bytesRow (bya L) c).size = c := by
    unfold bytesRow
    rw [Array.size_append, Array.size_map, Array.size_replicate, hz, bya_size]
    omega
  have hrow : (W.drew.alloc (.cells (bytesRow (bya L) c) 5 ((bytesRow (bya L) c).size, (bytesRow (bya L) c).size + 1))).heap[W.heap.size]? = some (.cells (bytesRow (bya L) c) 5 ((bytesRow (bya L) c).size, (bytesRow (bya L) c).size + 1)) := heap_alloc_new W.drew _
  refine ⟨lt_of_heap hrow, rfl, hc, fun i hi => ?_, fun j h1 h2 => ?_, fun j h1 => ?_⟩
  · rw [cell_of_row _ W.heap.size i _ _ _ hrow, bytesRow_at (bya L) c i (by rw [hz]; exact hi)]
    congr 3
    have := bya_get L i (by rw [bya_size]; exact hi)
    rw [← this]
    rfl
  · rw [cell_of_row _ W.heap.size j _ _ _ hrow, Array.getElem?_eq_getElem (by rw [hsz]; exact h2)]
    rfl
  · have e : (W.drew.alloc (.cells (bytesRow (bya L) c) 5 ((bytesRow (bya L) c).size, (bytesRow (bya L) c).size + 1))).frozen? ⟨W.heap.size, j, none⟩ = (decide ((bytesRow (bya L) c).size ≤ j) && decide (j < (bytesRow (bya L) c).size + 1)) := by
      simp only [World.frozen?, hrow]
    rw [e, hsz, Bool.and_eq_false_iff, decide_eq_false_iff_not]
    left
    omega

set_option maxRecDepth 10000 in
set_option maxHeartbeats 1000000 in
theorem chain_any (h : List B8) (hh : h.length ≤ 900) (r : Rc) (w : World) :
    Calls Try.prog 38 #[bstr h, r.agg] w fun e w' => e = .returned (bstr (chn h r)) ∧ Keep (fun _ => False) w w' := by
  have bz := bya_size h
  have hcv := fun w => run_bytes_of_string (P := Try.prog) w 9 22 5 (bya h) Try.underlying9 Try.underlying22 Try.underlying5
  rw [bstr_eq]
  go_enter Try.func38, Try.ntmps38
  unfold Rc.agg
  go_wp2_with fail
  have CV := conv_new (w.alloc (.cells #[.int .i64 r.s, .int .i64 r.t, .int .i64 r.c, .int .i64 r.o, .int .i64 r.e, .int .i64 r.n, .int .i64 r.m, .int .i64 r.a, .int .i64 r.b, .int .i64 r.d] 42)) h
  have K0 : Keep (fun _ => False) w ((w.alloc (.cells #[.int .i64 r.s, .int .i64 r.t, .int .i64 r.c, .int .i64 r.o, .int .i64 r.e, .int .i64 r.n, .int .i64 r.m, .int .i64 r.a, .int .i64 r.b, .int .i64 r.d] 42)).drew.alloc (.cells (bytesRow (bya h) (grownCap (w.alloc (.cells #[.int .i64 r.s, .int .i64 r.t, .int .i64 r.c, .int .i64 r.o, .int .i64 r.e, .int .i64 r.n, .int .i64 r.m, .int .i64 r.a, .int .i64 r.b, .int .i64 r.d] 42)) h.length 0 5)) 5 ((bytesRow (bya h) (grownCap (w.alloc (.cells #[.int .i64 r.s, .int .i64 r.t, .int .i64 r.c, .int .i64 r.o, .int .i64 r.e, .int .i64 r.n, .int .i64 r.m, .int .i64 r.a, .int .i64 r.b, .int .i64 r.d] 42)) h.length 0 5)).size, (bytesRow (bya h) (grownCap (w.alloc (.cells #[.int .i64 r.s, .int .i64 r.t, .int .i64 r.c, .int .i64 r.o, .int .i64 r.e, .int .i64 r.n, .int .i64 r.m, .int .i64 r.a, .int .i64 r.b, .int .i64 r.d] 42)) h.length 0 5)).size + 1))) := (((Keep.refl _ _).alloc _).drew).alloc _
  obtain ⟨c, hcc⟩ : ∃ c, grownCap (w.alloc (.cells #[.int .i64 r.s, .int .i64 r.t, .int .i64 r.c, .int .i64 r.o, .int .i64 r.e, .int .i64 r.n, .int .i64 r.m, .int .i64 r.a, .int .i64 r.b, .int .i64 r.d] 42)) h.length 0 5 = c := ⟨_, rfl⟩
  rw [World.size_alloc] at CV
  have HCV := hid CV
  have HK0 := hid K0
  clear CV K0
  refine (bytes_any r _).mono ?_
  rintro _ w2 ⟨a2, rfl, r2, f2, k2⟩
  have C2 := HCV.out.keep k2 (fun h => h)
  have K2 := hid (HK0.out.trans k2)
  rw [hcc] at C2 ⊢
  obtain ⟨g2, o2, c2, hv2, _, _, hc2⟩ := r2.at (byt_len r) (by omega)
  simp only [Value.slice.injEq] at hv2
  obtain ⟨rfl, -, rfl⟩ := hv2
  have hN : ∀ j u, (flat8 r.byt)[j]? = some u → w2.cell? ((⟨g2, o2, none⟩ : Addr).add j) = some u := fun j u hu => by
    have hj : j < r.byt.length := by
      have := (List.getElem?_eq_some_iff.1 hu).1
      rwa [flat8_length] at this
    rw [flat8_get r.byt j hj] at hu
    rw [add_off, ← Option.some.inj hu]
    exact hc2 j (by rw [← byt_len r]; exact hj)
  clear hcc hcv r2 f2 k2 hc2 HCV HK0
  have HL := hid (rfl : h.length = h.length)
  obtain ⟨n, hn⟩ : ∃ n, h.length = n := ⟨_, rfl⟩
  rw [hn] at C2 hh bz ⊢
  have HN := hid hn
  clear hn HL
  go_wp2_with (at_builtin; refine wpList_plain rfl (fun K hK => wp_append_conv _ (.tmp 6) (.tmp 8) rfl (w.heap.size + 1) n c h rfl HN.out C2.lt C2.le C2.cell C2.room C2.fro ⟨g2, o2, none⟩ 80 80 r.byt rfl (byt_len r) hN (by omega) ?_))
  intro v3 w3 r3 k3
  refine hK _ _ ?_
  clear hK K
  have K3 := hid (K2.out.then k3 (fun k hk => .inr (by omega)))
  have HR3 := hid r3
  have LR : (h ++ r.byt).length ≤ 1000 := by rw [List.length_append, byt_len, HN.out]; omega
  have OF := hid (of_any r3 LR)
  clear r3 k3 C2 hN K2 LR
  go_wp2_with fail
  refine OF.out.mono ?_
  rintro _ w4 ⟨rfl, k4⟩
  have K4 := hid (K3.out.trans k4)
  clear k4 K3 OF
  go_wp2_with fail
  go_ret
  exact ⟨rfl, K4.out⟩
end Go.Proofs.Ytpijnpapmdnceaa

namespace Go.Proofs.Ytpijnpapmdnceaa
open Go Go.RowKit

def upN (n : Int) (i : Nat) : Nat := (BitVec.ofInt 64 n >>> (8 * i)).toNat
theorem upN_zero (n : Int) : IntKind.u64.wrap n = (upN n 0 : Int) := by
  rw [u64_wrap]
  simp [upN]
theorem upN_lt (n : Int) (i : Nat) : upN n i < 18446744073709551616 := (BitVec.ofInt 64 n >>> (8 * i)).isLt
theorem upN_succ (n : Int) (i : Nat) : upN n (i + 1) = upN n i / 256 := by
  unfold upN
  rw [BitVec.toNat_ushiftRight, BitVec.toNat_ushiftRight, Nat.shiftRight_eq_div_pow, Nat.shiftRight_eq_div_pow, Nat.div_div_eq_div_mul, show 8 * (i + 1) = 8 * i + 8 from by omega, Nat.pow_add]
theorem upN_byte (n : Int) (i : Nat) : ((nb n i).toNat : Int) = (upN n i : Int) % 256 := by
  unfold nb upN
  rw [BitVec.toNat_setWidth]
  omega

set_option maxRecDepth 10000 in
set_option maxHeartbeats 1000000 in
theorem rnumber_any {w : World} {v : Value} {L : List B8} (hO : OwnY w v L) (hL : L.length ≤ 1000) (n : Int) :
    Calls Try.prog 43 #[v, .int .i64 n] w fun e w' => ∃ v', e = .returned v' ∧ OwnY w' v' (L ++ num8 n 8) ∧ (∀ k, v'.ownBlock = some k → v.ownBlock = some k ∨ w.heap.size ≤ k) ∧ Keep (fun k => v.ownBlock = some k) w w' := by
  obtain ⟨a0, c0, hv⟩ := hO.form
  subst hv
  obtain ⟨m0, hm0⟩ : ∃ m0, L.length = m0 := ⟨_, rfl⟩
  rw [hm0] at hO hL ⊢
  have HM0 := hid hm0
  have HO0 := hid hO
  have hu := upN_zero n
  clear hm0 hO
  go_enter Try.func43, Try.ntmps43
  go_wp2_with fail
  clear hu
  go_loopw [0, 5, 6] (fun ov uv iv wr => ∃ (i : Nat) (a : Option Addr) (c m : Nat), i ≤ 8 ∧ m = m0 + i ∧ OwnY wr (.slice a m c) (L ++ num8 n i) ∧ (∀ k, (Value.slice a m c).ownBlock = some k → (Value.slice a0 m0 c0).ownBlock = some k ∨ w.heap.size ≤ k) ∧ Keep (fun k => (Value.slice a0 m0 c0).ownBlock = some k) w wr ∧ ov = .slice a m c ∧ uv = .int .u64 (upN n i : Int) ∧ iv = .int .i64 i) (fun _ _ iv _ => 8 - (intOf iv).toNat)
  case atStart => exact ⟨0, a0, c0, m0, by omega, rfl, by rw [show num8 n 0 = [] from rfl, List.append_nil]; exact HO0.out, fun k hk => .inl hk, Keep.refl _ _, rfl, rfl, rfl⟩
  case round =>
    obtain ⟨i, a, c, m, hi, hm, hO, hF, hK, rfl, rfl, rfl⟩ := hrel
    have ML : (L ++ num8 n i).length = m := by rw [List.length_append, num8_len, HM0.out, hm]
    have HO := hid hO
    have HF := hid hF
    have KK := hid hK
    have HML := hid ML
    have HM := hid hm
    clear hO hF hK ML hm
    by_cases hl8 : i < 8
    · have hii : (i : Int) < 8 := by omega
      have hb := upN_lt n i
      have hsrc := one_srcY wr (nb n i)
      rw [upN_byte] at hsrc
      have hsz : (wr.alloc (.cells #[.int .u8 ((upN n i : Int) % 256)] 5)).heap.size = wr.heap.size + 1 := World.size_alloc _ _
      have K1 : Keep (fun _ => False) wr (wr.alloc (.cells #[.int .u8 ((upN n i : Int) % 256)] 5)) := (Keep.refl _ _).alloc _
      have hown := HO.out.keep K1 (fun _ _ h => h)
      go_wp2_with (at_builtin; refine wpList_plain rfl (fun K hK => wp_append_bytes _ (.tmp 13) (.tmp 16) rfl (.slice a m c) (L ++ num8 n i) rfl hown _ 1 [nb n i] rfl hsrc (by rw [HML.out, HM.out]; omega) ?_))
      intro v1 w1 o1 f1 k1
      obtain ⟨a1, c1, hv1⟩ := o1.form
      have e1 : ((L ++ num8 n i) ++ [nb n i]).length = m + 1 := by rw [List.length_append, HML.out]; rfl
      first
        | rw [e1] at hv1
        | (rw [List.append_assoc] at e1; rw [e1] at hv1)
      clear e1
      subst hv1
      refine hK _ _ ?_
      clear hK K
      have K2 : Hid (Keep (fun k => (Value.slice a0 m0 c0).ownBlock = some k) w w1) := hid ((KK.out.trans (K1.mono fun _ _ h => h.elim)).then k1 (fun k hk => HF.out k hk))
      have F2 : Hid (∀ k, (Value.slice a1 (m + 1) c1).ownBlock = some k → (Value.slice a0 m0 c0).ownBlock = some k ∨ w.heap.size ≤ k) := hid (fun k hk => (f1 k hk).elim (HF.out k) (fun h => .inr (by have := KK.out.size; omega)))
      have O2 : Hid (OwnY w1 (.slice a1 (m + 1) c1) (L ++ num8 n (i + 1))) := hid (by rw [num8_succ]; first | exact o1 | (rw [← List.append_assoc]; exact o1))
      have hu := upN_succ n i
      clear o1 f1 k1 hown hsrc K1 hsz
      go_wp2_with fail
      go_roundw
      case rel => exact ⟨i + 1, a1, c1, m + 1, by omega, by rw [HM.out]; omega, O2.out, F2.out, K2.out, rfl, by rw [hu]; go_num, by go_num⟩
      case measure => simp [intOf]; omega
    · obtain rfl : i = 8 := by omega
      go_wp2_with fail
      go_ret
      exact ⟨_, rfl, HO.out, HF.out, KK.out⟩
end Go.Proofs.Ytpijnpapmdnceaa

namespace Go.Proofs.Ytpijnpapmdnceaa
open Go Go.RowKit

/-- What there is so far. -/
structure Sofar (W0 W : World) (v : Value) (L : List B8) : Prop where
  own : OwnY W v L
  new : ∀ k, v.ownBlock = some k → W0.heap.size ≤ k
  kp : Keep (fun _ => False) W0 W
theorem Sofar.drew {W0 W : World} {v : Value} {L : List B8} (h : Sofar W0 W v L) : Sofar W0 W.drew v L := ⟨h.own.keep ((Keep.refl (fun _ => False) W).drew) (fun _ _ h => h), h.new, h.kp.drew⟩
theorem Sofar.next {W0 W W' : World} {v v' : Value} {L M : List B8} (h : Sofar W0 W v L) (o : OwnY W' v' M) (f : ∀ k, v'.ownBlock = some k → v.ownBlock = some k ∨ W.heap.size ≤ k) (k : Keep (fun k => v.ownBlock = some k) W W') : Sofar W0 W' v' M :=
  ⟨o, fun y hy => (f y hy).elim (h.new y) (fun h1 => Nat.le_trans h.kp.size h1), h.kp.then k (fun y hy => .inr (h.new y hy))⟩
theorem Sofar.cel {W0 W : World} {v : Value} {L : List B8} (h : Sofar W0 W v L) {b : Nat} {x : Value} {i : Nat} (hc : W0.cell? ⟨b, i, none⟩ = some x) : W.cell? ⟨b, i, none⟩ = some x :=
  (h.kp.cell (p := ⟨b, i, none⟩) (World.block_lt_of_cell? _ _ hc) (fun h => h)).trans hc

set_option maxRecDepth 10000 in
set_option maxHeartbeats 1000000 in
theorem rbytes_any (r : Rc) (w : World) :
    Calls Try.prog 28 #[r.agg] w fun e w' => ∃ v, e = .returned v ∧ OwnY w' v r.byt ∧ (∀ k, v.ownBlock = some k → w.heap.size ≤ k) ∧ Keep (fun _ => False) w w' := by
  obtain ⟨W0, hW0⟩ : ∃ W0, (w.alloc (.cells #[.int .i64 r.s, .int .i64 r.t, .int .i64 r.c, .int .i64 r.o, .int .i64 r.e, .int .i64 r.n, .int .i64 r.m, .int .i64 r.a, .int .i64 r.b, .int .i64 r.d] 42)) = W0 := ⟨_, rfl⟩
  have K0 : Keep (fun _ => False) w W0 := by rw [← hW0]; exact (Keep.refl _ _).alloc _
  have S0 : W0.heap.size = w.heap.size + 1 := by rw [← hW0, World.size_alloc]
  have HK0 := hid K0
  have HS0 := hid S0
  clear K0 S0
  have c1 : Hid (W0.cell? ⟨w.heap.size, 1, none⟩ = some (.int .i64 r.t)) := hid (by rw [← hW0, World.cell?_alloc_new]; rfl)
  have c2 : Hid (W0.cell? ⟨w.heap.size, 2, none⟩ = some (.int .i64 r.c)) := hid (by rw [← hW0, World.cell?_alloc_new]; rfl)
  have c3 : Hid (W0.cell? ⟨w.heap.size, 3, none⟩ = some (.int .i64 r.o)) := hid (by rw [← hW0, World.cell?_alloc_new]; rfl)
  have c4 : Hid (W0.cell? ⟨w.heap.size, 4, none⟩ = some (.int .i64 r.e)) := hid (by rw [← hW0, World.cell?_alloc_new]; rfl)
  have c5 : Hid (W0.cell? ⟨w.heap.size, 5, none⟩ = some (.int .i64 r.n)) := hid (by rw [← hW0, World.cell?_alloc_new]; rfl)
  have c6 : Hid (W0.cell? ⟨w.heap.size, 6, none⟩ = some (.int .i64 r.m)) := hid (by rw [← hW0, World.cell?_alloc_new]; rfl)
  have c7 : Hid (W0.cell? ⟨w.heap.size, 7, none⟩ = some (.int .i64 r.a)) := hid (by rw [← hW0, World.cell?_alloc_new]; rfl)
  have c8 : Hid (W0.cell? ⟨w.heap.size, 8, none⟩ = some (.int .i64 r.b)) := hid (by rw [← hW0, World.cell?_alloc_new]; rfl)
  have c9 : Hid (W0.cell? ⟨w.heap.size, 9, none⟩ = some (.int .i64 r.d)) := hid (by rw [← hW0, World.cell?_alloc_new]; rfl)
  have N0 : Hid (Sofar W0 W0 (.slice none 0 0) []) := hid ⟨OwnY.nil _, fun k hk => (by cases hk), Keep.refl _ _⟩
  have HW0 := hid hW0
  clear hW0
  go_enter Try.func28, Try.ntmps28
  unfold Rc.agg
  go_wp2_with fail
  rw [HW0.out]
  refine (rnumber_any N0.out.own (by simp [num8_len]) r.s).mono ?_
  rintro _ W1 ⟨v1, rfl, o1, f1, k1⟩
  have N1 := hid (N0.out.next o1 f1 k1)
  obtain ⟨a1, g1, hv1⟩ := o1.form
  generalize List.length _ = m1 at hv1
  subst hv1
  clear o1 f1 k1
  go_wp2_with fail
  have D1 := hid N1.out.drew
  refine wp_region_text [0,0,0,0,2,0,0,0,2,0,0,0,2,0] (fun W => W.cell? ⟨w.heap.size, 1, none⟩ = some (.int .i64 r.t) ∧ W.cell? ⟨w.heap.size, 2, none⟩ = some (.int .i64 r.c) ∧ W.cell? ⟨w.heap.size, 3, none⟩ = some (.int .i64 r.o)) (by kernel_rfl) (by kernel_rfl) ⟨D1.out.cel c1.out, D1.out.cel c2.out, D1.out.cel c3.out⟩ ?_
  repeat (first
    | (refine' wpT_calm (v := _) (by rfl) (fun W hW => ?_) ?_; rotate_left
       · ((try dsimp only at hW); go_simp; first | done | rfl)
       simp only [Act.put, List.setIfInBounds_toArray, List.set_cons_zero, List.set_cons_succ])
    | (refine' wpT_reads (v := _) (by rfl) ?_ ?_; rotate_left
       · (go_simp; first | done | rfl)
       simp only [Act.put, List.setIfInBounds_toArray, List.set_cons_zero, List.set_cons_succ])
    | (refine wpT_skip (by rfl) rfl ?_; simp only [Act.put, List.setIfInBounds_toArray, List.set_cons_zero, List.set_cons_succ])
    | (refine wpT_does (by rfl) (fun K hK => ?_); go_simp; refine hK _ _ ?_ ?_
       · (trivial)
       clear hK K; try simp only [Act.put, List.setIfInBounds_toArray, List.set_cons_zero, List.set_cons_succ])
    | (refine wpT_last (by rfl) (fun K hK => ?_); go_simp; refine hK _ _ ?_; clear hK K)
    | (refine wpT_nil ?_))
  refine wpT_does (by rfl) (fun K hK => ?_)
  go_simp
  refine (rnumber_any D1.out.own (by simp [num8_len]) r.t).mono ?_
  rintro _ W2 ⟨v2, rfl, o2, f2, k2⟩
  have N2 := hid (D1.out.next o2 f2 k2)
  obtain ⟨a2, g2, hv2⟩ := o2.form
  generalize List.length _ = m2 at hv2
  subst hv2
  clear o2 f2 k2
  have D2 := N2
  refine hK _ _ ⟨N2.out.cel c1.out, N2.out.cel c2.out, N2.out.cel c3.out⟩ ?_
  clear hK K
  try simp only [Act.put, List.setIfInBounds_toArray, List.set_cons_zero, List.set_cons_succ]
  repeat (first
    | (refine' wpT_calm (v := _) (by rfl) (fun W hW => ?_) ?_; rotate_left
       · ((try dsimp only at hW); go_simp; first | done | rfl)
       simp only [Act.put, List.setIfInBounds_toArray, List.set_cons_zero, List.set_cons_succ])
    | (refine' wpT_reads (v := _) (by rfl) ?_ ?_; rotate_left
       · (go_simp; first | done | rfl)
       simp only [Act.put, List.setIfInBounds_toArray, List.set_cons_zero, List.set_cons_succ])
    | (refine wpT_skip (by rfl) rfl ?_; simp only [Act.put, List.setIfInBounds_toArray, List.set_cons_zero, List.set_cons_succ])
    | (refine wpT_does (by rfl) (fun K hK => ?_); go_simp; refine hK _ _ ?_ ?_
       · (trivial)
       clear hK K; try simp only [Act.put, List.setIfInBounds_toArray, List.set_cons_zero, List.set_cons_succ])
    | (refine wpT_last (by rfl) (fun K hK => ?_); go_simp; refine hK _ _ ?_; clear hK K)
    | (refine wpT_nil ?_))
  refine wpT_does (by rfl) (fun K hK => ?_)
  go_simp
  refine (rnumber_any D2.out.own (by simp [num8_len]) r.c).mono ?_
  rintro _ W3 ⟨v3, rfl, o3, f3, k3⟩
  have N3 := hid (D2.out.next o3 f3 k3)
  obtain ⟨a3, g3, hv3⟩ := o3.form
  generalize List.length _ = m3 at hv3
  subst hv3
  clear o3 f3 k3
  have D3 := N3
  refine hK _ _ ⟨N3.out.cel c1.out, N3.out.cel c2.out, N3.out.cel c3.out⟩ ?_
  clear hK K
  try simp only [Act.put, List.setIfInBounds_toArray, List.set_cons_zero, List.set_cons_succ]
  repeat (first
    | (refine' wpT_calm (v := _) (by rfl) (fun W hW => ?_) ?_; rotate_left
       · ((try dsimp only at hW); go_simp; first | done | rfl)
       simp only [Act.put, List.setIfInBounds_toArray, List.set_cons_zero, List.set_cons_succ])
    | (refine' wpT_reads (v := _) (by rfl) ?_ ?_; rotate_left
       · (go_simp; first | done | rfl)
       simp only [Act.put, List.setIfInBounds_toArray, List.set_cons_zero, List.set_cons_succ])
    | (refine wpT_skip (by rfl) rfl ?_; simp only [Act.put, List.setIfInBounds_toArray, List.set_cons_zero, List.set_cons_succ])
    | (refine wpT_does (by rfl) (fun K hK => ?_); go_simp; refine hK _ _ ?_ ?_
       · (trivial)
       clear hK K; try simp only [Act.put, List.setIfInBounds_toArray, List.set_cons_zero, List.set_cons_succ])
    | (refine wpT_last (by rfl) (fun K hK => ?_); go_simp; refine hK _ _ ?_; clear hK K)
    | (refine wpT_nil ?_))
  refine wpT_does (by rfl) (fun K hK => ?_)
  go_simp
  refine (rnumber_any D3.out.own (by simp [num8_len]) r.o).mono ?_
  rintro _ W4 ⟨v4, rfl, o4, f4, k4⟩
  have N4 := hid (D3.out.next o4 f4 k4)
  obtain ⟨a4, g4, hv4⟩ := o4.form
  generalize List.length _ = m4 at hv4
  subst hv4
  clear o4 f4 k4
  refine hK _ _ ⟨N4.out.cel c1.out, N4.out.cel c2.out, N4.out.cel c3.out⟩ ?_
  clear hK K
  try simp only [Act.put, List.setIfInBounds_toArray, List.set_cons_zero, List.set_cons_succ]
  repeat (first
    | (refine' wpT_calm (v := _) (by rfl) (fun W hW => ?_) ?_; rotate_left
       · ((try dsimp only at hW); go_simp; first | done | rfl)
       simp only [Act.put, List.setIfInBounds_toArray, List.set_cons_zero, List.set_cons_succ])
    | (refine' wpT_reads (v := _) (by rfl) ?_ ?_; rotate_left
       · (go_simp; first | done | rfl)
       simp only [Act.put, List.setIfInBounds_toArray, List.set_cons_zero, List.set_cons_succ])
    | (refine wpT_skip (by rfl) rfl ?_; simp only [Act.put, List.setIfInBounds_toArray, List.set_cons_zero, List.set_cons_succ])
    | (refine wpT_does (by rfl) (fun K hK => ?_); go_simp; refine hK _ _ ?_ ?_
       · (trivial)
       clear hK K; try simp only [Act.put, List.setIfInBounds_toArray, List.set_cons_zero, List.set_cons_succ])
    | (refine wpT_last (by rfl) (fun K hK => ?_); go_simp; refine hK _ _ ?_; clear hK K)
    | (refine wpT_nil ?_))
  go_wp2_with fail
  have D4 := hid N4.out.drew
  refine wp_region_text [0,0,0,0,2,0,0,0,2,0,0,0,2,0] (fun W => W.cell? ⟨w.heap.size, 4, none⟩ = some (.int .i64 r.e) ∧ W.cell? ⟨w.heap.size, 5, none⟩ = some (.int .i64 r.n) ∧ W.cell? ⟨w.heap.size, 6, none⟩ = some (.int .i64 r.m)) (by kernel_rfl) (by kernel_rfl) ⟨D4.out.cel c4.out, D4.out.cel c5.out, D4.out.cel c6.out⟩ ?_
  repeat (first
    | (refine' wpT_calm (v := _) (by rfl) (fun W hW => ?_) ?_; rotate_left
       · ((try dsimp only at hW); go_simp; first | done | rfl)
       simp only [Act.put, List.setIfInBounds_toArray, List.set_cons_zero, List.set_cons_succ])
    | (refine' wpT_reads (v := _) (by rfl) ?_ ?_; rotate_left
       · (go_simp; first | done | rfl)
       simp only [Act.put, List.setIfInBounds_toArray, List.set_cons_zero, List.set_cons_succ])
    | (refine wpT_skip (by rfl) rfl ?_; simp only [Act.put, List.setIfInBounds_toArray, List.set_cons_zero, List.set_cons_succ])
    | (refine wpT_does (by rfl) (fun K hK => ?_); go_simp; refine hK _ _ ?_ ?_
       · (trivial)
       clear hK K; try simp only [Act.put, List.setIfInBounds_toArray, List.set_cons_zero, List.set_cons_succ])
    | (refine wpT_last (by rfl) (fun K hK => ?_); go_simp; refine hK _ _ ?_; clear hK K)
    | (refine wpT_nil ?_))
  refine wpT_does (by rfl) (fun K hK => ?_)
  go_simp
  refine (rnumber_any D4.out.own (by simp [num8_len]) r.e).mono ?_
  rintro _ W5 ⟨v5, rfl, o5, f5, k5⟩
  have N5 := hid (D4.out.next o5 f5 k5)
  obtain ⟨a5, g5, hv5⟩ := o5.form
  generalize List.length _ = m5 at hv5
  subst hv5
  clear o5 f5 k5
  have D5 := N5
  refine hK _ _ ⟨N5.out.cel c4.out, N5.out.cel c5.out, N5.out.cel c6.out⟩ ?_
  clear hK K
  try simp only [Act.put, List.setIfInBounds_toArray, List.set_cons_zero, List.set_cons_succ]
  repeat (first
    | (refine' wpT_calm (v := _) (by rfl) (fun W hW => ?_) ?_; rotate_left
       · ((try dsimp only at hW); go_simp; first | done | rfl)
       simp only [Act.put, List.setIfInBounds_toArray, List.set_cons_zero, List.set_cons_succ])
    | (refine' wpT_reads (v := _) (by rfl) ?_ ?_; rotate_left
       · (go_simp; first | done | rfl)
       simp only [Act.put, List.setIfInBounds_toArray, List.set_cons_zero, List.set_cons_succ])
    | (refine wpT_skip (by rfl) rfl ?_; simp only [Act.put, List.setIfInBounds_toArray, List.set_cons_zero, List.set_cons_succ])
    | (refine wpT_does (by rfl) (fun K hK => ?_); go_simp; refine hK _ _ ?_ ?_
       · (trivial)
       clear hK K; try simp only [Act.put, List.setIfInBounds_toArray, List.set_cons_zero, List.set_cons_succ])
    | (refine wpT_last (by rfl) (fun K hK => ?_); go_simp; refine hK _ _ ?_; clear hK K)
    | (refine wpT_nil ?_))
  refine wpT_does (by rfl) (fun K hK => ?_)
  go_simp
  refine (rnumber_any D5.out.own (by simp [num8_len]) r.n).mono ?_
  rintro _ W6 ⟨v6, rfl, o6, f6, k6⟩
  have N6 := hid (D5.out.next o6 f6 k6)
  obtain ⟨a6, g6, hv6⟩ := o6.form
  generalize List.length _ = m6 at hv6
  subst hv6
  clear o6 f6 k6
  have D6 := N6
  refine hK _ _ ⟨N6.out.cel c4.out, N6.out.cel c5.out, N6.out.cel c6.out⟩ ?_
  clear hK K
  try simp only [Act.put, List.setIfInBounds_toArray, List.set_cons_zero, List.set_cons_succ]
  repeat (first
    | (refine' wpT_calm (v := _) (by rfl) (fun W hW => ?_) ?_; rotate_left
       · ((try dsimp only at hW); go_simp; first | done | rfl)
       simp only [Act.put, List.setIfInBounds_toArray, List.set_cons_zero, List.set_cons_succ])
    | (refine' wpT_reads (v := _) (by rfl) ?_ ?_; rotate_left
       · (go_simp; first | done | rfl)
       simp only [Act.put, List.setIfInBounds_toArray, List.set_cons_zero, List.set_cons_succ])
    | (refine wpT_skip (by rfl) rfl ?_; simp only [Act.put, List.setIfInBounds_toArray, List.set_cons_zero, List.set_cons_succ])
    | (refine wpT_does (by rfl) (fun K hK => ?_); go_simp; refine hK _ _ ?_ ?_
       · (trivial)
       clear hK K; try simp only [Act.put, List.setIfInBounds_toArray, List.set_cons_zero, List.set_cons_succ])
    | (refine wpT_last (by rfl) (fun K hK => ?_); go_simp; refine hK _ _ ?_; clear hK K)
    | (refine wpT_nil ?_))
  refine wpT_does (by rfl) (fun K hK => ?_)
  go_simp
  refine (rnumber_any D6.out.own (by simp [num8_len]) r.m).mono ?_
  rintro _ W7 ⟨v7, rfl, o7, f7, k7⟩
  have N7 := hid (D6.out.next o7 f7 k7)
  obtain ⟨a7, g7, hv7⟩ := o7.form
  generalize List.length _ = m7 at hv7
  subst hv7
  clear o7 f7 k7
  refine hK _ _ ⟨N7.out.cel c4.out, N7.out.cel c5.out, N7.out.cel c6.out⟩ ?_
  clear hK K
  try simp only [Act.put, List.setIfInBounds_toArray, List.set_cons_zero, List.set_cons_succ]
  repeat (first
    | (refine' wpT_calm (v := _) (by rfl) (fun W hW => ?_) ?_; rotate_left
       · ((try dsimp only at hW); go_simp; first | done | rfl)
       simp only [Act.put, List.setIfInBounds_toArray, List.set_cons_zero, List.set_cons_succ])
    | (refine' wpT_reads (v := _) (by rfl) ?_ ?_; rotate_left
       · (go_simp; first | done | rfl)
       simp only [Act.put, List.setIfInBounds_toArray, List.set_cons_zero, List.set_cons_succ])
    | (refine wpT_skip (by rfl) rfl ?_; simp only [Act.put, List.setIfInBounds_toArray, List.set_cons_zero, List.set_cons_succ])
    | (refine wpT_does (by rfl) (fun K hK => ?_); go_simp; refine hK _ _ ?_ ?_
       · (trivial)
       clear hK K; try simp only [Act.put, List.setIfInBounds_toArray, List.set_cons_zero, List.set_cons_succ])
    | (refine wpT_last (by rfl) (fun K hK => ?_); go_simp; refine hK _ _ ?_; clear hK K)
    | (refine wpT_nil ?_))
  go_wp2_with fail
  have D7 := hid N7.out.drew
  refine wp_region_text [0,0,0,2,0,0,2,0,0,2,0] (fun W => W.cell? ⟨w.heap.size, 7, none⟩ = some (.int .i64 r.a) ∧ W.cell? ⟨w.heap.size, 8, none⟩ = some (.int .i64 r.b) ∧ W.cell? ⟨w.heap.size, 9, none⟩ = some (.int .i64 r.d)) (by kernel_rfl) (by kernel_rfl) ⟨D7.out.cel c7.out, D7.out.cel c8.out, D7.out.cel c9.out⟩ ?_
  repeat (first
    | (refine' wpT_calm (v := _) (by rfl) (fun W hW => ?_) ?_; rotate_left
       · ((try dsimp only at hW); go_simp; first | done | rfl)
       simp only [Act.put, List.setIfInBounds_toArray, List.set_cons_zero, List.set_cons_succ])
    | (refine' wpT_reads (v := _) (by rfl) ?_ ?_; rotate_left
       · (go_simp; first | done | rfl)
       simp only [Act.put, List.setIfInBounds_toArray, List.set_cons_zero, List.set_cons_succ])
    | (refine wpT_skip (by rfl) rfl ?_; simp only [Act.put, List.setIfInBounds_toArray, List.set_cons_zero, List.set_cons_succ])
    | (refine wpT_does (by rfl) (fun K hK => ?_); go_simp; refine hK _ _ ?_ ?_
       · (trivial)
       clear hK K; try simp only [Act.put, List.setIfInBounds_toArray, List.set_cons_zero, List.set_cons_succ])
    | (refine wpT_last (by rfl) (fun K hK => ?_); go_simp; refine hK _ _ ?_; clear hK K)
    | (refine wpT_nil ?_))
  refine wpT_does (by rfl) (fun K hK => ?_)
  go_simp
  refine (rnumber_any D7.out.own (by simp [num8_len]) r.a).mono ?_
  rintro _ W8 ⟨v8, rfl, o8, f8, k8⟩
  have N8 := hid (D7.out.next o8 f8 k8)
  obtain ⟨a8, g8, hv8⟩ := o8.form
  generalize List.length _ = m8 at hv8
  subst hv8
  clear o8 f8 k8
  have D8 := N8
  refine hK _ _ ⟨N8.out.cel c7.out, N8.out.cel c8.out, N8.out.cel c9.out⟩ ?_
  clear hK K
  try simp only [Act.put, List.setIfInBounds_toArray, List.set_cons_zero, List.set_cons_succ]
  repeat (first
    | (refine' wpT_calm (v := _) (by rfl) (fun W hW => ?_) ?_; rotate_left
       · ((try dsimp only at hW); go_simp; first | done | rfl)
       simp only [Act.put, List.setIfInBounds_toArray, List.set_cons_zero, List.set_cons_succ])
    | (refine' wpT_reads (v := _) (by rfl) ?_ ?_; rotate_left
       · (go_simp; first | done | rfl)
       simp only [Act.put, List.setIfInBounds_toArray, List.set_cons_zero, List.set_cons_succ])
    | (refine wpT_skip (by rfl) rfl ?_; simp only [Act.put, List.setIfInBounds_toArray, List.set_cons_zero, List.set_cons_succ])
    | (refine wpT_does (by rfl) (fun K hK => ?_); go_simp; refine hK _ _ ?_ ?_
       · (trivial)
       clear hK K; try simp only [Act.put, List.setIfInBounds_toArray, List.set_cons_zero, List.set_cons_succ])
    | (refine wpT_last (by rfl) (fun K hK => ?_); go_simp; refine hK _ _ ?_; clear hK K)
    | (refine wpT_nil ?_))
  refine wpT_does (by rfl) (fun K hK => ?_)
  go_simp
  refine (rnumber_any D8.out.own (by simp [num8_len]) r.b).mono ?_
  rintro _ W9 ⟨v9, rfl, o9, f9, k9⟩
  have N9 := hid (D8.out.next o9 f9 k9)
  obtain ⟨a9, g9, hv9⟩ := o9.form
  generalize List.length _ = m9 at hv9
  subst hv9
  clear o9 f9 k9
  have D9 := N9
  refine hK _ _ ⟨N9.out.cel c7.out, N9.out.cel c8.out, N9.out.cel c9.out⟩ ?_
  clear hK K
  try simp only [Act.put, List.setIfInBounds_toArray, List.set_cons_zero, List.set_cons_succ]
  repeat (first
    | (refine' wpT_calm (v := _) (by rfl) (fun W hW => ?_) ?_; rotate_left
       · ((try dsimp only at hW); go_simp; first | done | rfl)
       simp only [Act.put, List.setIfInBounds_toArray, List.set_cons_zero, List.set_cons_succ])
    | (refine' wpT_reads (v := _) (by rfl) ?_ ?_; rotate_left
       · (go_simp; first | done | rfl)
       simp only [Act.put, List.setIfInBounds_toArray, List.set_cons_zero, List.set_cons_succ])
    | (refine wpT_skip (by rfl) rfl ?_; simp only [Act.put, List.setIfInBounds_toArray, List.set_cons_zero, List.set_cons_succ])
    | (refine wpT_does (by rfl) (fun K hK => ?_); go_simp; refine hK _ _ ?_ ?_
       · (trivial)
       clear hK K; try simp only [Act.put, List.setIfInBounds_toArray, List.set_cons_zero, List.set_cons_succ])
    | (refine wpT_last (by rfl) (fun K hK => ?_); go_simp; refine hK _ _ ?_; clear hK K)
    | (refine wpT_nil ?_))
  refine wpT_does (by rfl) (fun K hK => ?_)
  go_simp
  refine (rnumber_any D9.out.own (by simp [num8_len]) r.d).mono ?_
  rintro _ W10 ⟨v10, rfl, o10, f10, k10⟩
  have N10 := hid (D9.out.next o10 f10 k10)
  obtain ⟨a10, g10, hv10⟩ := o10.form
  generalize List.length _ = m10 at hv10
  subst hv10
  clear o10 f10 k10
  refine hK _ _ ⟨N10.out.cel c7.out, N10.out.cel c8.out, N10.out.cel c9.out⟩ ?_
  clear hK K
  try simp only [Act.put, List.setIfInBounds_toArray, List.set_cons_zero, List.set_cons_succ]
  repeat (first
    | (refine' wpT_calm (v := _) (by rfl) (fun W hW => ?_) ?_; rotate_left
       · ((try dsimp only at hW); go_simp; first | done | rfl)
       simp only [Act.put, List.setIfInBounds_toArray, List.set_cons_zero, List.set_cons_succ])
    | (refine' wpT_reads (v := _) (by rfl) ?_ ?_; rotate_left
       · (go_simp; first | done | rfl)
       simp only [Act.put, List.setIfInBounds_toArray, List.set_cons_zero, List.set_cons_succ])
    | (refine wpT_skip (by rfl) rfl ?_; simp only [Act.put, List.setIfInBounds_toArray, List.set_cons_zero, List.set_cons_succ])
    | (refine wpT_does (by rfl) (fun K hK => ?_); go_simp; refine hK _ _ ?_ ?_
       · (trivial)
       clear hK K; try simp only [Act.put, List.setIfInBounds_toArray, List.set_cons_zero, List.set_cons_succ])
    | (refine wpT_last (by rfl) (fun K hK => ?_); go_simp; refine hK _ _ ?_; clear hK K)
    | (refine wpT_nil ?_))
  go_wp2_with fail
  go_ret
  refine ⟨_, rfl, ?_, fun k hk => ?_, HK0.out.trans N10.out.kp⟩
  · have e : ((((((((((([] : List B8) ++ num8 r.s 8) ++ num8 r.t 8) ++ num8 r.c 8) ++ num8 r.o 8) ++ num8 r.e 8) ++ num8 r.n 8) ++ num8 r.m 8) ++ num8 r.a 8) ++ num8 r.b 8) ++ num8 r.d 8) = r.byt := by simp [Rc.byt, Rc.nums, byl]
    have o := N10.out.own
    rw [e] at o
    exact o
  · have := N10.out.new k hk
    rw [HS0.out] at this
    omega
end Go.Proofs.Ytpijnpapmdnceaa
