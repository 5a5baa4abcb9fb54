/- Ground for this claim: The call of TraceDiffs returns true. Condition: the arguments are of bulk at most 1048576. -/
import Derived.Test.YtmgnkohlfbjjnaaGreatRProg
import Derived.KernelRfl
import Derived.Test.YtmgnkohlfbjjnaaGreatRTdf6
section
namespace Go.Proofs
open Go.Fw Go.Fx
set_option maxRecDepth 10000
set_option linter.unusedVariables false
set_option linter.unusedSimpArgs false
set_option maxHeartbeats 4000000 in
theorem trace_pieces_calls {x0 : Int} {x1 : List UInt8} {x2 : List UInt8} {s1 : SV} {s3 : SV} {out : List QPiece} {w0 : World} {Bf : World → Prop} {Lr : List Res} (hP : Sh.trace_pieces x0 x1 x2 = some out) (hM : MemL w0 (Lr)) (hsub : ∀ w, MemL w Lr → Bf w) (f2 : LIn Bf s1 x1) (f4 : LIn Bf s3 x2) : Calls Tryz.prog 86 #[.int .i64 x0, (s1).v, (s3).v] w0 (Ret fun v w' => ∃ (s8188 : SV) (hs8189 : List RPiece) (r8191 : Res), v = (s8188).v ∧ Each (QPieceIn r8191.holds') hs8189 out ∧ MemL w' (rowL 0 s8188 156 hs8189 :: r8191 :: Lr)) := by
  unfold Sh.trace_pieces at hP
  refine calls_enter (vs := [.int .i64 x0, (s1).v, (s3).v]) Tryz.func86 rfl Tryz.ntmps86 rfl fun a hF => ?_
  refine c_seq ?_
  refine c_region ?_
  refine s_val hF (r_assign hF rfl rfl) rfl rfl rfl fun a hF => ?_
  refine c_nil (n_then ?_)
  refine c_seq ?_
  refine c_region ?_
  refine s_val hF (r_assign hF rfl rfl) rfl rfl rfl fun a hF => ?_
  refine c_nil (n_then ?_)
  refine c_seq ?_
  refine c_joinX hF hM hP (fun F x a w => match x with | (v13641, t13651) => ∃ (s13642 : SV) (hs13643 : List RPiece) (r13645 : Res) (so13646 : SV) (sn13647 : SV) (lo13648 : List UInt8) (ln13649 : List UInt8), LastP t13651 r13645.holds' hs13643 v13641 so13646 sn13647 lo13648 ln13649 ∧ Fr 88 [(7, (s13642).v), (6, (SV.nil).v)] a ∧ MemL w (rowL 0 s13642 156 hs13643 :: rowL 0 so13646 5 lo13648 :: rowL 0 sn13647 5 ln13649 :: r13645 :: Lr)) (fun o_j1 hP hK_j1 hF hM => ?_) ?_
  · refine c_seq ?_
    refine c_region ?_
    refine s_val hF (r_move hF rfl rfl) rfl rfl rfl fun a hF => ?_
    refine s_val hF (r_move hF rfl rfl) rfl rfl rfl fun a hF => ?_
    obtain ⟨y13653, hy13653, hP⟩ := bind_some hP
    refine s_eff hF rfl rfl rfl (w_call (xs := [.tmp 11, .tmp 12]) Tryz.call158 hF rfl rfl (trace_changed_byte_calls hy13653 hM (Bf := Bf) (fun w hM => hsub _ (dropM hM 0)) f2 f4) fun v w hR => ?_)
    obtain ⟨s13654, rfl, hM⟩ := hR
    replace hM : MemL _ (rowL 0 s13654 3 y13653 :: Lr) := hM
    intro a hF
    refine s_val hF (r_lenL (hM.rowS (X := Int) (i := 0) rfl) Tryz.underlying52 hF rfl rfl) rfl rfl rfl fun a hF => ?_
    refine s_val hF (r_move hF rfl rfl) rfl rfl rfl fun a hF => ?_
    refine c_nil (n_then ?_)
    refine c_block ?_
    obtain ⟨r15073, hM⟩ := voidM hM
    have q15074 : Each (QPieceIn r15073.holds') ([] : List RPiece) ([] : List QPiece) := Each.nil
    have hM := hM.rowNil (X := RPiece) 0 156
    have hM := hM.rowNil (X := UInt8) 0 5
    have hM := hM.rowNil (X := UInt8) 0 5
    have q15075 : LastP false r15073.holds' [] [] SV.nil SV.nil [] [] := LastP.none q15074
    refine c_loopX hF hM hP (fun F x a w => match x with | (v15059, v15060, t15070) => ∃ (s15061 : SV) (hs15062 : List RPiece) (r15064 : Res) (so15065 : SV) (sn15066 : SV) (lo15067 : List UInt8) (ln15068 : List UInt8), LastP t15070 r15064.holds' hs15062 v15060 so15065 sn15066 lo15067 ln15068 ∧ Fr 88 [(15, .int .i64 v15059), (7, (s15061).v), (0, .int .i64 x0), (1, (s1).v), (13, (s13654).v), (14, .int .i64 (y13653.length : Int)), (2, (s3).v), (6, (SV.nil).v)] a ∧ MemL w (rowL 0 s15061 156 hs15062 :: rowL 0 so15065 5 lo15067 :: rowL 0 sn15066 5 ln15068 :: r15064 :: rowL 0 s13654 3 y13653 :: Lr)) (fun hF hM => ⟨SV.nil, [], r15073, SV.nil, SV.nil, [], [], q15075, hF.to ⟨rfl, rfl, rfl, rfl, rfl, rfl, rfl, rfl, trivial⟩, selM hM [2, 0, 1, 3, 4] 5 rfl⟩) ?_
    rintro ⟨v15059, v15060, t15070⟩ a w o_l2 hP hK_l2 ⟨s15061, hs15062, r15064, so15065, sn15066, lo15067, ln15068, q15069, hF, hM⟩
    replace hP : Sh.trace_pieces_l2 x0 x1 x2 y13653 v15059 v15060 t15070 = _ := hP
    unfold Sh.trace_pieces_l2 at hP
    refine c_seq ?_
    refine c_region ?_
    refine s_val hF (r_lss hF rfl rfl rfl) rfl rfl rfl fun a hF => ?_
    refine c_nil (n_then ?_)
    refine c_seq ?_
    refine c_cond hF (c := .tmp 16) rfl (fun hb15077 => ?_) (fun hb15077 => ?_)
    · have hP := Fx.cT hb15077 hP
      refine c_skip (n_then ?_)
      refine c_seq ?_
      refine c_joinX hF hM hP (fun F x a w => match x with | (v15936, t15946) => ∃ (s15937 : SV) (hs15938 : List RPiece) (r15940 : Res) (so15941 : SV) (sn15942 : SV) (lo15943 : List UInt8) (ln15944 : List UInt8), LastP t15946 r15940.holds' hs15938 v15936 so15941 sn15942 lo15943 ln15944 ∧ Fr 88 [(7, (s15937).v), (0, .int .i64 x0), (1, (s1).v), (13, (s13654).v), (14, .int .i64 (y13653.length : Int)), (15, .int .i64 v15059), (2, (s3).v), (6, (SV.nil).v)] a ∧ MemL w (rowL 0 s15937 156 hs15938 :: rowL 0 so15941 5 lo15943 :: rowL 0 sn15942 5 ln15944 :: r15940 :: rowL 0 s13654 3 y13653 :: Lr)) (fun o_j3 hP hK_j3 hF hM => ?_) ?_
      · refine c_block ?_
        refine c_seq ?_
        refine c_region ?_
        obtain ⟨x15947, hx15947, hP⟩ := bind_some hP
        have h0x15947 := get_some hx15947
        refine s_val hF (r_indexZ (sz := 1) (hM.rowS (X := Int) (i := 4) rfl) Tryz.underlying52 in3 rfl hF rfl rfl rfl (get_bd hx15947)) rfl rfl rfl fun a hF => ?_
        refine s_val hF (r_load1 Tryz.isAgg3 hF rfl rfl ((((hM.rowS (X := Int) (i := 4) rfl).elemS h0x15947.2)).get 0 rfl)) rfl rfl rfl fun a hF => ?_
        refine s_val hF (r_assign hF rfl rfl) rfl rfl rfl fun a hF => ?_
        refine c_nil (n_then ?_)
        refine c_seq ?_
        refine c_seq ?_
        refine c_region ?_
        refine s_val hF (r_move hF rfl rfl) rfl rfl rfl fun a hF => ?_
        refine s_val hF (r_lenD (hM.rowS (X := RPiece) (i := 0) rfl) q15069.len Tryz.underlying58 hF rfl rfl) rfl rfl rfl fun a hF => ?_
        refine s_val hF (r_sub hF rfl rfl rfl) rfl rfl rfl fun a hF => ?_
        refine s_val hF (r_assign hF rfl rfl) rfl rfl rfl fun a hF => ?_
        refine c_nil (n_then ?_)
        refine c_seq ?_
        refine c_joinX hF hM hP (fun F x a w => match x with | v16182 => Fr 88 [(39, .bool v16182), (0, .int .i64 x0), (1, (s1).v), (10, .int .i64 (IntKind.i64.wrap ((v15060.length : Int) - 1))), (13, (s13654).v), (14, .int .i64 (y13653.length : Int)), (15, .int .i64 v15059), (2, (s3).v), (6, (SV.nil).v), (7, (s15061).v), (9, .int .i64 x15947)] a ∧ MemL w (rowL 0 s15061 156 hs15062 :: rowL 0 so15065 5 lo15067 :: rowL 0 sn15066 5 ln15068 :: r15064 :: rowL 0 s13654 3 y13653 :: Lr)) (fun o_j4 hP hK_j4 hF hM => ?_) ?_
        · refine d_startT mixed (by kernel_rfl) hM [0, 1, 2, 3, 4] 5 rfl fun hch => ?_
          refine d_val hF hch 0 rfl (by kernel_rfl) rfl rfl rfl (fun w hM => (r_move hF rfl rfl)) fun a hF => ?_
          refine d_val hF hch 1 rfl (by kernel_rfl) rfl rfl rfl (fun w hM => (r_geq hF rfl rfl rfl)) fun a hF => ?_
          refine d_val hF hch 2 rfl (by kernel_rfl) rfl rfl rfl (fun w hM => (r_move hF rfl rfl)) fun a hF => ?_
          refine g_split 24 hF rfl (fun hb16183 => ?_) (fun hb16183 => ?_)
          · have hP := Fx.cT hb16183 hP
            refine d_valg hF hch 3 rfl (by kernel_rfl) rfl rfl rfl hb16183 rfl rfl (fun w hM => (r_move hF rfl rfl)) fun a hF => ?_
            refine d_valg hF hch 4 rfl (by kernel_rfl) rfl rfl rfl hb16183 rfl rfl (fun w hM => (r_move hF rfl rfl)) fun a hF => ?_
            obtain ⟨x16184, hx16184, hP⟩ := bind_some hP
            have h0x16184 := get_some hx16184
            have hE16185 : Each (QPieceIn (fun w => (r15064).holds' w ∧ (rowL 0 so15065 5 lo15067).holds' w ∧ (rowL 0 sn15066 5 ln15068).holds' w)) hs15062 v15060 := LastP.each q15069 (fun _ h => h.1) (fun _ h => row_in (X := UInt8) (e := 5) h.2.1) (fun _ h => row_in (X := UInt8) (e := 5) h.2.2)
            obtain ⟨yx16184, hgx16184, hrx16184⟩ := Each.getr hE16185 h0x16184.2
            have hdx16184 := Each.bd hE16185 (get_bd hx16184)
            obtain ⟨s16186, s16188, rfl, f16187, f16189⟩ := hrx16184
            refine d_valg hF hch 5 rfl (by kernel_rfl) rfl rfl rfl hb16183 rfl rfl (fun w hM => (r_indexZ (sz := 4) (hM.rowS (X := RPiece) (i := 0) rfl) Tryz.underlying58 in156 rfl hF rfl rfl rfl hdx16184)) fun a hF => ?_
            refine d_valg hF hch 6 rfl (by kernel_rfl) rfl rfl rfl hb16183 rfl rfl (fun w hM => (r_fieldAddr Tryz.underlying156 rfl in3 rfl hF rfl rfl rfl)) fun a hF => ?_
            refine d_valg hF hch 7 rfl (by kernel_rfl) rfl rfl rfl hb16183 rfl rfl (fun w hM => (r_load1 Tryz.isAgg3 hF rfl rfl ((((hM.rowS (X := RPiece) (i := 0) rfl).elemS hgx16184)).get 1 (RPiece.g_from_ _)))) fun a hF => ?_
            refine d_valg hF hch 8 rfl (by kernel_rfl) rfl rfl rfl hb16183 rfl rfl (fun w hM => (r_move hF rfl rfl)) fun a hF => ?_
            refine d_valg hF hch 9 rfl (by kernel_rfl) rfl rfl rfl hb16183 rfl rfl (fun w hM => (r_move hF rfl rfl)) fun a hF => ?_
            obtain ⟨x16190, hx16190, hP⟩ := bind_some hP
            have h0x16190 := get_some hx16190
            have hE16191 : Each (QPieceIn (fun w => (r15064).holds' w ∧ (rowL 0 so15065 5 lo15067).holds' w ∧ (rowL 0 sn15066 5 ln15068).holds' w)) hs15062 v15060 := LastP.each q15069 (fun _ h => h.1) (fun _ h => row_in (X := UInt8) (e := 5) h.2.1) (fun _ h => row_in (X := UInt8) (e := 5) h.2.2)
            obtain ⟨yx16190, hgx16190, hrx16190⟩ := Each.getr hE16191 h0x16190.2
            have hdx16190 := Each.bd hE16191 (get_bd hx16190)
            obtain ⟨s16192, s16194, rfl, f16193, f16195⟩ := hrx16190
            refine d_valg hF hch 10 rfl (by kernel_rfl) rfl rfl rfl hb16183 rfl rfl (fun w hM => (r_indexZ (sz := 4) (hM.rowS (X := RPiece) (i := 0) rfl) Tryz.underlying58 in156 rfl hF rfl rfl rfl hdx16190)) fun a hF => ?_
            refine d_valg hF hch 11 rfl (by kernel_rfl) rfl rfl rfl hb16183 rfl rfl (fun w hM => (r_fieldAddr Tryz.underlying156 rfl in23 rfl hF rfl rfl rfl)) fun a hF => ?_
            refine d_valg hF hch 12 rfl (by kernel_rfl) rfl rfl rfl hb16183 rfl rfl (fun w hM => (r_load1 Tryz.isAgg23 hF rfl rfl ((((hM.rowS (X := RPiece) (i := 0) rfl).elemS hgx16190)).get 2 (RPiece.g_old _)))) fun a hF => ?_
            refine d_valg hF hch 13 rfl (by kernel_rfl) rfl rfl rfl hb16183 rfl rfl (fun w hM => (r_lenL (f16193 _ ⟨hM.hold 3 _ rfl, hM.hold 1 _ rfl, hM.hold 2 _ rfl⟩) Tryz.underlying23 hF rfl rfl)) fun a hF => ?_
            refine d_valg hF hch 14 rfl (by kernel_rfl) rfl rfl rfl hb16183 rfl rfl (fun w hM => (r_add hF rfl rfl rfl)) fun a hF => ?_
            refine d_valg hF hch 15 rfl (by kernel_rfl) rfl rfl rfl hb16183 rfl rfl (fun w hM => (r_move hF rfl rfl)) fun a hF => ?_
            refine d_valg hF hch 16 rfl (by kernel_rfl) rfl rfl rfl hb16183 rfl rfl (fun w hM => (r_eql hF rfl rfl rfl)) fun a hF => ?_
            refine d_val hF hch 17 rfl (by kernel_rfl) rfl rfl rfl (fun w hM => (r_pick1 hF rfl rfl hb16183 rfl)) fun a hF => ?_
            refine d_end hch (by kernel_rfl) fun w hM => ?_
            refine n_then ?_
            have hP := Option.some.inj hP
            subst hP
            exact ⟨(decide ((IntKind.i64.wrap (x16184.from_ + (x16190.old.length : Int))) = x15947)), rfl, hF.to ⟨rfl, rfl, rfl, rfl, rfl, rfl, rfl, rfl, rfl, rfl, rfl, trivial⟩, hM⟩
          have hP := Fx.cF hb16183 hP
          refine d_skip hF hch 3 rfl (by kernel_rfl) rfl rfl rfl hb16183 rfl rfl fun a hF => ?_
          refine d_skip hF hch 4 rfl (by kernel_rfl) rfl rfl rfl hb16183 rfl rfl fun a hF => ?_
          refine d_skip hF hch 5 rfl (by kernel_rfl) rfl rfl rfl hb16183 rfl rfl fun a hF => ?_
          refine d_skip hF hch 6 rfl (by kernel_rfl) rfl rfl rfl hb16183 rfl rfl fun a hF => ?_
          refine d_skip hF hch 7 rfl (by kernel_rfl) rfl rfl rfl hb16183 rfl rfl fun a hF => ?_
          refine d_skip hF hch 8 rfl (by kernel_rfl) rfl rfl rfl hb16183 rfl rfl fun a hF => ?_
          refine d_skip hF hch 9 rfl (by kernel_rfl) rfl rfl rfl hb16183 rfl rfl fun a hF => ?_
          refine d_skip hF hch 10 rfl (by kernel_rfl) rfl rfl rfl hb16183 rfl rfl fun a hF => ?_
          refine d_skip hF hch 11 rfl (by kernel_rfl) rfl rfl rfl hb16183 rfl rfl fun a hF => ?_
          refine d_skip hF hch 12 rfl (by kernel_rfl) rfl rfl rfl hb16183 rfl rfl fun a hF => ?_
          refine d_skip hF hch 13 rfl (by kernel_rfl) rfl rfl rfl hb16183 rfl rfl fun a hF => ?_
          refine d_skip hF hch 14 rfl (by kernel_rfl) rfl rfl rfl hb16183 rfl rfl fun a hF => ?_
          refine d_skip hF hch 15 rfl (by kernel_rfl) rfl rfl rfl hb16183 rfl rfl fun a hF => ?_
          refine d_skip hF hch 16 rfl (by kernel_rfl) rfl rfl rfl hb16183 rfl rfl fun a hF => ?_
          refine d_val hF hch 17 rfl (by kernel_rfl) rfl rfl rfl (fun w hM => (r_pick0 hF rfl rfl hb16183 rfl)) fun a hF => ?_
          refine d_end hch (by kernel_rfl) fun w hM => ?_
          refine n_then ?_
          have hP := Option.some.inj hP
          subst hP
          exact ⟨false, rfl, hF.to ⟨rfl, rfl, rfl, rfl, rfl, rfl, rfl, rfl, rfl, rfl, rfl, trivial⟩, hM⟩
        rintro v16182 a w hP ⟨hF, hM⟩
        replace hP : Sh.trace_pieces_j4 x0 x1 x2 v15060 t15070 x15947 v16182 = _ := hP
        unfold Sh.trace_pieces_j4 at hP
        refine n_then ?_
        refine c_cond hF (c := .tmp 39) rfl (fun hb16196 => ?_) (fun hb16196 => ?_)
        · have hP := Fx.cT hb16196 hP
          refine c_seq ?_
          refine c_joinX hF hM hP (fun F x a w => match x with | (v16301, t16311) => ∃ (s16302 : SV) (hs16303 : List RPiece) (r16305 : Res) (so16306 : SV) (sn16307 : SV) (lo16308 : List UInt8) (ln16309 : List UInt8), LastP t16311 r16305.holds' hs16303 v16301 so16306 sn16307 lo16308 ln16309 ∧ Fr 88 [(7, (s16302).v), (0, .int .i64 x0), (1, (s1).v), (13, (s13654).v), (14, .int .i64 (y13653.length : Int)), (15, .int .i64 v15059), (2, (s3).v), (6, (SV.nil).v), (9, .int .i64 x15947)] a ∧ MemL w (rowL 0 s16302 156 hs16303 :: rowL 0 so16306 5 lo16308 :: rowL 0 sn16307 5 ln16309 :: r16305 :: rowL 0 s13654 3 y13653 :: Lr)) (fun o_j5 hP hK_j5 hF hM => ?_) ?_
          · refine d_startT mixed (by kernel_rfl) hM [0, 2, 3, 4] 5 rfl fun hch => ?_
            refine d_val hF hch 0 rfl (by kernel_rfl) rfl rfl rfl (fun w hM => (r_move hF rfl rfl)) fun a hF => ?_
            refine d_val hF hch 1 rfl (by kernel_rfl) rfl rfl rfl (fun w hM => (r_move hF rfl rfl)) fun a hF => ?_
            refine d_val hF hch 2 rfl (by kernel_rfl) rfl rfl rfl (fun w hM => (r_move hF rfl rfl)) fun a hF => ?_
            refine d_val hF hch 3 rfl (by kernel_rfl) rfl rfl rfl (fun w hM => (r_move hF rfl rfl)) fun a hF => ?_
            refine d_val hF hch 4 rfl (by kernel_rfl) rfl rfl rfl (fun w hM => (r_move hF rfl rfl)) fun a hF => ?_
            refine d_val hF hch 5 rfl (by kernel_rfl) rfl rfl rfl (fun w hM => (r_move hF rfl rfl)) fun a hF => ?_
            obtain ⟨x16312, hx16312, hP⟩ := bind_some hP
            have h0x16312 := get_some hx16312
            have hE16313 : Each (QPieceIn (fun w => (r15064).holds' w ∧ (rowL 0 so15065 5 lo15067).holds' w ∧ (rowL 0 sn15066 5 ln15068).holds' w)) hs15062 v15060 := LastP.each q15069 (fun _ h => h.1) (fun _ h => row_in (X := UInt8) (e := 5) h.2.1) (fun _ h => row_in (X := UInt8) (e := 5) h.2.2)
            obtain ⟨yx16312, hgx16312, hrx16312⟩ := Each.getr hE16313 h0x16312.2
            have hdx16312 := Each.bd hE16313 (get_bd hx16312)
            obtain ⟨s16314, s16316, rfl, f16315, f16317⟩ := hrx16312
            refine d_val hF hch 6 rfl (by kernel_rfl) rfl rfl rfl (fun w hM => (r_indexZ (sz := 4) (hM.rowS (X := RPiece) (i := 0) rfl) Tryz.underlying58 in156 rfl hF rfl rfl rfl hdx16312)) fun a hF => ?_
            refine d_val hF hch 7 rfl (by kernel_rfl) rfl rfl rfl (fun w hM => (r_fieldAddr Tryz.underlying156 rfl in23 rfl hF rfl rfl rfl)) fun a hF => ?_
            refine d_val hF hch 8 rfl (by kernel_rfl) rfl rfl rfl (fun w hM => (r_load1 Tryz.isAgg23 hF rfl rfl ((((hM.rowS (X := RPiece) (i := 0) rfl).elemS hgx16312)).get 2 (RPiece.g_old _)))) fun a hF => ?_
            refine d_val hF hch 9 rfl (by kernel_rfl) rfl rfl rfl (fun w hM => (r_move hF rfl rfl)) fun a hF => ?_
            refine d_val hF hch 10 rfl (by kernel_rfl) rfl rfl rfl (fun w hM => (r_move hF rfl rfl)) fun a hF => ?_
            obtain ⟨x16318, hx16318, hP⟩ := bind_some hP
            have h0x16318 := get_some hx16318
            refine d_val hF hch 11 rfl (by kernel_rfl) rfl rfl rfl (fun w hM => (r_indexZ (sz := 1) (f2 _ (hsub _ (dropM hM 4))) Tryz.underlying23 in5 rfl hF rfl rfl rfl (get_bd hx16318))) fun a hF => ?_
            refine d_val hF hch 12 rfl (by kernel_rfl) rfl rfl rfl (fun w hM => (r_load1 Tryz.isAgg5 hF rfl rfl ((((f2 _ (hsub _ (dropM hM 4))).elemS h0x16318.2)).get 0 rfl))) fun a hF => ?_
            refine d_val hF hch 15 rfl (by kernel_rfl) rfl rfl rfl (fun w hM => (r_move hF rfl rfl)) fun a hF => ?_
            refine d_val hF hch 16 rfl (by kernel_rfl) rfl rfl rfl (fun w hM => (r_move hF rfl rfl)) fun a hF => ?_
            obtain ⟨x16319, hx16319, hP⟩ := bind_some hP
            have h0x16319 := get_some hx16319
            have hE16320 : Each (QPieceIn (fun w => (r15064).holds' w ∧ (rowL 0 so15065 5 lo15067).holds' w ∧ (rowL 0 sn15066 5 ln15068).holds' w)) hs15062 v15060 := LastP.each q15069 (fun _ h => h.1) (fun _ h => row_in (X := UInt8) (e := 5) h.2.1) (fun _ h => row_in (X := UInt8) (e := 5) h.2.2)
            obtain ⟨yx16319, hgx16319, hrx16319⟩ := Each.getr hE16320 h0x16319.2
            have hdx16319 := Each.bd hE16320 (get_bd hx16319)
            obtain ⟨s16321, s16323, rfl, f16322, f16324⟩ := hrx16319
            refine d_val hF hch 17 rfl (by kernel_rfl) rfl rfl rfl (fun w hM => (r_indexZ (sz := 4) (hM.rowS (X := RPiece) (i := 0) rfl) Tryz.underlying58 in156 rfl hF rfl rfl rfl hdx16319)) fun a hF => ?_
            refine d_val hF hch 18 rfl (by kernel_rfl) rfl rfl rfl (fun w hM => (r_fieldAddr Tryz.underlying156 rfl in23 rfl hF rfl rfl rfl)) fun a hF => ?_
            refine d_val hF hch 19 rfl (by kernel_rfl) rfl rfl rfl (fun w hM => (r_load1 Tryz.isAgg23 hF rfl rfl ((((hM.rowS (X := RPiece) (i := 0) rfl).elemS hgx16319)).get 3 (RPiece.g_new _)))) fun a hF => ?_
            refine d_val hF hch 20 rfl (by kernel_rfl) rfl rfl rfl (fun w hM => (r_move hF rfl rfl)) fun a hF => ?_
            refine d_val hF hch 21 rfl (by kernel_rfl) rfl rfl rfl (fun w hM => (r_move hF rfl rfl)) fun a hF => ?_
            obtain ⟨x16325, hx16325, hP⟩ := bind_some hP
            have h0x16325 := get_some hx16325
            refine d_val hF hch 22 rfl (by kernel_rfl) rfl rfl rfl (fun w hM => (r_indexZ (sz := 1) (f4 _ (hsub _ (dropM hM 4))) Tryz.underlying23 in5 rfl hF rfl rfl rfl (get_bd hx16325))) fun a hF => ?_
            refine d_val hF hch 23 rfl (by kernel_rfl) rfl rfl rfl (fun w hM => (r_load1 Tryz.isAgg5 hF rfl rfl ((((f4 _ (hsub _ (dropM hM 4))).elemS h0x16325.2)).get 0 rfl))) fun a hF => ?_
            refine d_two hch 13 24 (by kernel_rfl) rfl rfl ?_ ?_
            · refine d_ex hF 13 rfl rfl rfl rfl rfl fun w hMs hM => ?_
              refine (w_slice1 (X := UInt8) (y := x16318) Tryz.underlying23 in5 rfl rfl rfl rfl hF rfl rfl rfl fun b_B86_53 w hzB86_53 hAB86_53 => ?_)
              have hM := hM.plus hAB86_53
              replace hM : MemL _ (pt b_B86_53 (encs ([x16318] : List UInt8)) 5 :: rowL 0 s15061 156 hs15062 :: rowL 0 so15065 5 lo15067 :: rowL 0 sn15066 5 ln15068 :: r15064 :: rowL 0 s13654 3 y13653 :: Lr) := hM
              have hMs := selM hM [0, 1, 3, 4, 5] 6 rfl
              refine ⟨_, _, hMs, hM, .inl fun _ h => dropM h 1, fun a hF => ?_⟩
              refine d_two hch 14 24 (by kernel_rfl) rfl rfl ?_ ?_
              · refine d_ex hF 14 rfl rfl rfl rfl rfl fun w hMs hM => ?_
                have q16327 := q15069
                obtain ⟨hc16328, hP⟩ := must_some hP
                rw [hc16328] at q16327
                obtain ⟨hc16329, hP⟩ := must_some hP
                obtain ⟨e16330, _, e16331, _, _, _⟩ := LastP.last q16327 (of_decide_eq_true hc16329) hx16312 hgx16312
                have e16330 : s16314 = so15065 := e16330
                subst e16330 e16331
                obtain ⟨x16332, hx16332, hP⟩ := bind_some hP
                refine (w_appX (X := UInt8) hx16332 Tryz.underlying23 in5 rfl rfl rfl rfl hF rfl rfl rfl (hM.own (X := UInt8) (i := 2) rfl) (hM.ptS (X := UInt8) (i := 0) (n := 1) (c := 1) rfl rfl rfl (Nat.le_refl _)) fun s16326 w hUs16326 => ?_)
                have hM := hM.chg hUs16326 (i := 2) rfl
                replace hM : MemL _ (pt b_B86_53 (encs ([x16318] : List UInt8)) 5 :: rowL 0 s15061 156 hs15062 :: rowL 0 s16326 5 x16332 :: rowL 0 sn15066 5 ln15068 :: r15064 :: rowL 0 s13654 3 y13653 :: Lr) := hM
                have hMs := selM hM [0, 1, 3, 4, 5] 6 rfl
                refine ⟨_, _, hMs, hM, .inl fun _ h => h, fun a hF => ?_⟩
                refine d_one hch 24 (by kernel_rfl) rfl rfl ?_
                refine d_ex hF 24 rfl rfl rfl rfl rfl fun w hMs hM => ?_
                refine (w_slice1 (X := UInt8) (y := x16325) Tryz.underlying23 in5 rfl rfl rfl rfl hF rfl rfl rfl fun b_B86_64 w hzB86_64 hAB86_64 => ?_)
                have hM := hM.plus hAB86_64
                replace hM : MemL _ (pt b_B86_64 (encs ([x16325] : List UInt8)) 5 :: pt b_B86_53 (encs ([x16318] : List UInt8)) 5 :: rowL 0 s15061 156 hs15062 :: rowL 0 s16326 5 x16332 :: rowL 0 sn15066 5 ln15068 :: r15064 :: rowL 0 s13654 3 y13653 :: Lr) := hM
                have hMs := selM hM [0, 1, 2, 4, 5, 6] 7 rfl
                refine ⟨_, _, hMs, hM, .inl fun _ h => dropM h 1, fun a hF => ?_⟩
                refine d_one hch 25 (by kernel_rfl) rfl rfl ?_
                refine d_ex hF 25 rfl rfl rfl rfl rfl fun w hMs hM => ?_
                have q16334 := q15069
                obtain ⟨hc16335, hP⟩ := must_some hP
                rw [hc16335] at q16334
                obtain ⟨hc16336, hP⟩ := must_some hP
                obtain ⟨_, e16337, _, e16338, _, _⟩ := LastP.last q16334 (of_decide_eq_true hc16336) hx16319 hgx16319
                have e16337 : s16323 = sn15066 := e16337
                subst e16337 e16338
                obtain ⟨x16339, hx16339, hP⟩ := bind_some hP
                refine (w_appX (X := UInt8) hx16339 Tryz.underlying23 in5 rfl rfl rfl rfl hF rfl rfl rfl (hM.own (X := UInt8) (i := 4) rfl) (hM.ptS (X := UInt8) (i := 0) (n := 1) (c := 1) rfl rfl rfl (Nat.le_refl _)) fun s16333 w hUs16333 => ?_)
                have hM := hM.chg hUs16333 (i := 4) rfl
                replace hM : MemL _ (pt b_B86_64 (encs ([x16325] : List UInt8)) 5 :: pt b_B86_53 (encs ([x16318] : List UInt8)) 5 :: rowL 0 s15061 156 hs15062 :: rowL 0 s16326 5 x16332 :: rowL 0 s16333 5 x16339 :: r15064 :: rowL 0 s13654 3 y13653 :: Lr) := hM
                have hMs := selM hM [0, 1, 2, 4, 5, 6] 7 rfl
                refine ⟨_, _, hMs, hM, .inr (by kernel_rfl), fun a hF => ?_⟩
                obtain ⟨x16340, hx16340, hP⟩ := bind_some hP
                have h0x16340 := get_some hx16340
                have hE16341 : Each (QPieceIn (fun w => (r15064).holds' w ∧ (rowL 0 s16314 5 x16312.old).holds' w ∧ (rowL 0 s16323 5 x16319.new).holds' w)) hs15062 v15060 := LastP.each q15069 (fun _ h => h.1) (fun _ h => row_in (X := UInt8) (e := 5) h.2.1) (fun _ h => row_in (X := UInt8) (e := 5) h.2.2)
                obtain ⟨yx16340, hgx16340, hrx16340⟩ := Each.getr hE16341 h0x16340.2
                have hdx16340 := Each.bd hE16341 (get_bd hx16340)
                obtain ⟨s16342, s16344, rfl, f16343, f16345⟩ := hrx16340
                refine d_val hF hch 26 rfl (by kernel_rfl) rfl rfl rfl (fun w hM => (r_indexZ (sz := 4) (hM.rowS (X := RPiece) (i := 2) rfl) Tryz.underlying58 in156 rfl hF rfl rfl rfl hdx16340)) fun a hF => ?_
                refine d_val hF hch 27 rfl (by kernel_rfl) rfl rfl rfl (fun w hM => (r_fieldAddr Tryz.underlying156 rfl in23 rfl hF rfl rfl rfl)) fun a hF => ?_
                refine d_one hch 28 (by kernel_rfl) rfl rfl ?_
                refine d_ex0 28 rfl rfl rfl rfl fun w hMs hM => ?_
                obtain ⟨x16348, hx16348, hP⟩ := bind_some hP
                have q16347 := q15069
                obtain ⟨hc16349, hP⟩ := must_some hP
                rw [hc16349] at q16347
                obtain ⟨hc16350, hP⟩ := must_some hP
                obtain ⟨yx16348, hgx16348⟩ := LastP.getr q16347 hx16348
                have q16351 := LastP.setOld (so' := s16326) (lo' := x16332) (q16347) (of_decide_eq_true hc16350) hx16348 hgx16348
                refine (w_storeRow1 (d := 2) (q := ({ yx16348 with old := s16326 } : RPiece)) Tryz.sizeOf23 (hM.own (X := RPiece) (i := 2) rfl) hgx16348 hF rfl rfl (Nat.add_assoc _ _ _) rfl rfl (by decide) (RPiece.s_old _ _) fun w hU16346 => ?_)
                have hM := hM.chg hU16346 (i := 2) rfl
                replace hM : MemL _ (pt b_B86_64 (encs ([x16325] : List UInt8)) 5 :: pt b_B86_53 (encs ([x16318] : List UInt8)) 5 :: rowL 0 s15061 156 (hs15062.set ((IntKind.i64.wrap ((v15060.length : Int) - 1)) : Int).toNat { yx16348 with old := s16326 }) :: rowL 0 s16326 5 x16332 :: rowL 0 s16333 5 x16339 :: r15064 :: rowL 0 s13654 3 y13653 :: Lr) := hM
                have hMs := selM hM [0, 1, 2, 4, 5, 6] 7 rfl
                refine ⟨_, _, hMs, hM, .inr (by kernel_rfl), ?_⟩
                obtain ⟨x16352, hx16352, hP⟩ := bind_some hP
                have h0x16352 := get_some hx16352
                have hE16353 : Each (QPieceIn (fun w => (r15064).holds' w ∧ (rowL 0 s16326 5 x16332).holds' w ∧ (rowL 0 s16323 5 x16319.new).holds' w)) (hs15062.set ((IntKind.i64.wrap ((v15060.length : Int) - 1)) : Int).toNat { yx16348 with old := s16326 }) (v15060.set ((IntKind.i64.wrap ((v15060.length : Int) - 1)) : Int).toNat { x16348 with old := x16332 }) := LastP.each q16351 (fun _ h => h.1) (fun _ h => row_in (X := UInt8) (e := 5) h.2.1) (fun _ h => row_in (X := UInt8) (e := 5) h.2.2)
                obtain ⟨yx16352, hgx16352, hrx16352⟩ := Each.getr hE16353 h0x16352.2
                have hdx16352 := Each.bd hE16353 (get_bd hx16352)
                obtain ⟨s16354, s16356, rfl, f16355, f16357⟩ := hrx16352
                refine d_val hF hch 29 rfl (by kernel_rfl) rfl rfl rfl (fun w hM => (r_indexZ (sz := 4) (hM.rowS (X := RPiece) (i := 2) rfl) Tryz.underlying58 in156 rfl hF rfl rfl rfl hdx16352)) fun a hF => ?_
                refine d_val hF hch 30 rfl (by kernel_rfl) rfl rfl rfl (fun w hM => (r_fieldAddr Tryz.underlying156 rfl in23 rfl hF rfl rfl rfl)) fun a hF => ?_
                refine d_one hch 31 (by kernel_rfl) rfl rfl ?_
                refine d_ex0 31 rfl rfl rfl rfl fun w hMs hM => ?_
                obtain ⟨x16360, hx16360, hP⟩ := bind_some hP
                have q16359 := q16351
                obtain ⟨hc16361, hP⟩ := must_some hP
                rw [hc16361] at q16359
                obtain ⟨hc16362, hP⟩ := must_some hP
                obtain ⟨yx16360, hgx16360⟩ := LastP.getr q16359 hx16360
                have q16363 := LastP.setNew (sn' := s16333) (ln' := x16339) (q16359) (of_decide_eq_true hc16362) hx16360 hgx16360
                refine (w_storeRow1 (d := 3) (q := ({ yx16360 with new := s16333 } : RPiece)) Tryz.sizeOf23 (hM.own (X := RPiece) (i := 2) rfl) hgx16360 hF rfl rfl (Nat.add_assoc _ _ _) rfl rfl (by decide) (RPiece.s_new _ _) fun w hU16358 => ?_)
                have hM := hM.chg hU16358 (i := 2) rfl
                replace hM : MemL _ (pt b_B86_64 (encs ([x16325] : List UInt8)) 5 :: pt b_B86_53 (encs ([x16318] : List UInt8)) 5 :: rowL 0 s15061 156 ((hs15062.set ((IntKind.i64.wrap ((v15060.length : Int) - 1)) : Int).toNat { yx16348 with old := s16326 }).set ((IntKind.i64.wrap ((v15060.length : Int) - 1)) : Int).toNat { yx16360 with new := s16333 }) :: rowL 0 s16326 5 x16332 :: rowL 0 s16333 5 x16339 :: r15064 :: rowL 0 s13654 3 y13653 :: Lr) := hM
                have hMs := selM hM [0, 1, 2, 4, 5, 6] 7 rfl
                refine ⟨_, _, hMs, hM, .inr (by kernel_rfl), ?_⟩
                refine d_end hch (by kernel_rfl) fun w hM => ?_
                refine n_then ?_
                have hP := Option.some.inj hP
                subst hP
                exact ⟨(((v15060.set ((IntKind.i64.wrap ((v15060.length : Int) - 1)) : Int).toNat { x16348 with old := x16332 }).set ((IntKind.i64.wrap ((v15060.length : Int) - 1)) : Int).toNat { x16360 with new := x16339 }), true), rfl, s15061, ((hs15062.set ((IntKind.i64.wrap ((v15060.length : Int) - 1)) : Int).toNat { yx16348 with old := s16326 }).set ((IntKind.i64.wrap ((v15060.length : Int) - 1)) : Int).toNat { yx16360 with new := s16333 }), r15064, s16326, s16333, x16332, x16339, q16363, hF.to ⟨rfl, rfl, rfl, rfl, rfl, rfl, rfl, rfl, rfl, trivial⟩, selM hM [2, 3, 4, 5, 6] 7 rfl⟩
              refine d_ex hF 24 rfl rfl rfl rfl rfl fun w hMs hM => ?_
              refine (w_slice1 (X := UInt8) (y := x16325) Tryz.underlying23 in5 rfl rfl rfl rfl hF rfl rfl rfl fun b_B86_64 w hzB86_64 hAB86_64 => ?_)
              have hM := hM.plus hAB86_64
              replace hM : MemL _ (pt b_B86_64 (encs ([x16325] : List UInt8)) 5 :: pt b_B86_53 (encs ([x16318] : List UInt8)) 5 :: rowL 0 s15061 156 hs15062 :: rowL 0 so15065 5 lo15067 :: rowL 0 sn15066 5 ln15068 :: r15064 :: rowL 0 s13654 3 y13653 :: Lr) := hM
              have hMs := selM hM [0, 1, 2, 4, 5, 6] 7 rfl
              refine ⟨_, _, hMs, hM, .inl fun _ h => dropM h 1, fun a hF => ?_⟩
              refine d_one hch 14 (by kernel_rfl) rfl rfl ?_
              refine d_ex hF 14 rfl rfl rfl rfl rfl fun w hMs hM => ?_
              have q16327 := q15069
              obtain ⟨hc16328, hP⟩ := must_some hP
              rw [hc16328] at q16327
              obtain ⟨hc16329, hP⟩ := must_some hP
              obtain ⟨e16330, _, e16331, _, _, _⟩ := LastP.last q16327 (of_decide_eq_true hc16329) hx16312 hgx16312
              have e16330 : s16314 = so15065 := e16330
              subst e16330 e16331
              obtain ⟨x16332, hx16332, hP⟩ := bind_some hP
              refine (w_appX (X := UInt8) hx16332 Tryz.underlying23 in5 rfl rfl rfl rfl hF rfl rfl rfl (hM.own (X := UInt8) (i := 3) rfl) (hM.ptS (X := UInt8) (i := 1) (n := 1) (c := 1) rfl rfl rfl (Nat.le_refl _)) fun s16326 w hUs16326 => ?_)
              have hM := hM.chg hUs16326 (i := 3) rfl
              replace hM : MemL _ (pt b_B86_64 (encs ([x16325] : List UInt8)) 5 :: pt b_B86_53 (encs ([x16318] : List UInt8)) 5 :: rowL 0 s15061 156 hs15062 :: rowL 0 s16326 5 x16332 :: rowL 0 sn15066 5 ln15068 :: r15064 :: rowL 0 s13654 3 y13653 :: Lr) := hM
              have hMs := selM hM [0, 1, 2, 4, 5, 6] 7 rfl
              refine ⟨_, _, hMs, hM, .inl fun _ h => h, fun a hF => ?_⟩
              refine d_one hch 25 (by kernel_rfl) rfl rfl ?_
              refine d_ex hF 25 rfl rfl rfl rfl rfl fun w hMs hM => ?_
              have q16334 := q15069
              obtain ⟨hc16335, hP⟩ := must_some hP
              rw [hc16335] at q16334
              obtain ⟨hc16336, hP⟩ := must_some hP
              obtain ⟨_, e16337, _, e16338, _, _⟩ := LastP.last q16334 (of_decide_eq_true hc16336) hx16319 hgx16319
              have e16337 : s16323 = sn15066 := e16337
              subst e16337 e16338
              obtain ⟨x16339, hx16339, hP⟩ := bind_some hP
              refine (w_appX (X := UInt8) hx16339 Tryz.underlying23 in5 rfl rfl rfl rfl hF rfl rfl rfl (hM.own (X := UInt8) (i := 4) rfl) (hM.ptS (X := UInt8) (i := 0) (n := 1) (c := 1) rfl rfl rfl (Nat.le_refl _)) fun s16333 w hUs16333 => ?_)
              have hM := hM.chg hUs16333 (i := 4) rfl
              replace hM : MemL _ (pt b_B86_64 (encs ([x16325] : List UInt8)) 5 :: pt b_B86_53 (encs ([x16318] : List UInt8)) 5 :: rowL 0 s15061 156 hs15062 :: rowL 0 s16326 5 x16332 :: rowL 0 s16333 5 x16339 :: r15064 :: rowL 0 s13654 3 y13653 :: Lr) := hM
              have hMs := selM hM [0, 1, 2, 4, 5, 6] 7 rfl
              refine ⟨_, _, hMs, hM, .inr (by kernel_rfl), fun a hF => ?_⟩
              obtain ⟨x16340, hx16340, hP⟩ := bind_some hP
              have h0x16340 := get_some hx16340
              have hE16341 : Each (QPieceIn (fun w => (r15064).holds' w ∧ (rowL 0 s16314 5 x16312.old).holds' w ∧ (rowL 0 s16323 5 x16319.new).holds' w)) hs15062 v15060 := LastP.each q15069 (fun _ h => h.1) (fun _ h => row_in (X := UInt8) (e := 5) h.2.1) (fun _ h => row_in (X := UInt8) (e := 5) h.2.2)
              obtain ⟨yx16340, hgx16340, hrx16340⟩ := Each.getr hE16341 h0x16340.2
              have hdx16340 := Each.bd hE16341 (get_bd hx16340)
              obtain ⟨s16342, s16344, rfl, f16343, f16345⟩ := hrx16340
              refine d_val hF hch 26 rfl (by kernel_rfl) rfl rfl rfl (fun w hM => (r_indexZ (sz := 4) (hM.rowS (X := RPiece) (i := 2) rfl) Tryz.underlying58 in156 rfl hF rfl rfl rfl hdx16340)) fun a hF => ?_
              refine d_val hF hch 27 rfl (by kernel_rfl) rfl rfl rfl (fun w hM => (r_fieldAddr Tryz.underlying156 rfl in23 rfl hF rfl rfl rfl)) fun a hF => ?_
              refine d_one hch 28 (by kernel_rfl) rfl rfl ?_
              refine d_ex0 28 rfl rfl rfl rfl fun w hMs hM => ?_
              obtain ⟨x16348, hx16348, hP⟩ := bind_some hP
              have q16347 := q15069
              obtain ⟨hc16349, hP⟩ := must_some hP
              rw [hc16349] at q16347
              obtain ⟨hc16350, hP⟩ := must_some hP
              obtain ⟨yx16348, hgx16348⟩ := LastP.getr q16347 hx16348
              have q16351 := LastP.setOld (so' := s16326) (lo' := x16332) (q16347) (of_decide_eq_true hc16350) hx16348 hgx16348
              refine (w_storeRow1 (d := 2) (q := ({ yx16348 with old := s16326 } : RPiece)) Tryz.sizeOf23 (hM.own (X := RPiece) (i := 2) rfl) hgx16348 hF rfl rfl (Nat.add_assoc _ _ _) rfl rfl (by decide) (RPiece.s_old _ _) fun w hU16346 => ?_)
              have hM := hM.chg hU16346 (i := 2) rfl
              replace hM : MemL _ (pt b_B86_64 (encs ([x16325] : List UInt8)) 5 :: pt b_B86_53 (encs ([x16318] : List UInt8)) 5 :: rowL 0 s15061 156 (hs15062.set ((IntKind.i64.wrap ((v15060.length : Int) - 1)) : Int).toNat { yx16348 with old := s16326 }) :: rowL 0 s16326 5 x16332 :: rowL 0 s16333 5 x16339 :: r15064 :: rowL 0 s13654 3 y13653 :: Lr) := hM
              have hMs := selM hM [0, 1, 2, 4, 5, 6] 7 rfl
              refine ⟨_, _, hMs, hM, .inr (by kernel_rfl), ?_⟩
              obtain ⟨x16352, hx16352, hP⟩ := bind_some hP
              have h0x16352 := get_some hx16352
              have hE16353 : Each (QPieceIn (fun w => (r15064).holds' w ∧ (rowL 0 s16326 5 x16332).holds' w ∧ (rowL 0 s16323 5 x16319.new).holds' w)) (hs15062.set ((IntKind.i64.wrap ((v15060.length : Int) - 1)) : Int).toNat { yx16348 with old := s16326 }) (v15060.set ((IntKind.i64.wrap ((v15060.length : Int) - 1)) : Int).toNat { x16348 with old := x16332 }) := LastP.each q16351 (fun _ h => h.1) (fun _ h => row_in (X := UInt8) (e := 5) h.2.1) (fun _ h => row_in (X := UInt8) (e := 5) h.2.2)
              obtain ⟨yx16352, hgx16352, hrx16352⟩ := Each.getr hE16353 h0x16352.2
              have hdx16352 := Each.bd hE16353 (get_bd hx16352)
              obtain ⟨s16354, s16356, rfl, f16355, f16357⟩ := hrx16352
              refine d_val hF hch 29 rfl (by kernel_rfl) rfl rfl rfl (fun w hM => (r_indexZ (sz := 4) (hM.rowS (X := RPiece) (i := 2) rfl) Tryz.underlying58 in156 rfl hF rfl rfl rfl hdx16352)) fun a hF => ?_
              refine d_val hF hch 30 rfl (by kernel_rfl) rfl rfl rfl (fun w hM => (r_fieldAddr Tryz.underlying156 rfl in23 rfl hF rfl rfl rfl)) fun a hF => ?_
              refine d_one hch 31 (by kernel_rfl) rfl rfl ?_
              refine d_ex0 31 rfl rfl rfl rfl fun w hMs hM => ?_
              obtain ⟨x16360, hx16360, hP⟩ := bind_some hP
              have q16359 := q16351
              obtain ⟨hc16361, hP⟩ := must_some hP
              rw [hc16361] at q16359
              obtain ⟨hc16362, hP⟩ := must_some hP
              obtain ⟨yx16360, hgx16360⟩ := LastP.getr q16359 hx16360
              have q16363 := LastP.setNew (sn' := s16333) (ln' := x16339) (q16359) (of_decide_eq_true hc16362) hx16360 hgx16360
              refine (w_storeRow1 (d := 3) (q := ({ yx16360 with new := s16333 } : RPiece)) Tryz.sizeOf23 (hM.own (X := RPiece) (i := 2) rfl) hgx16360 hF rfl rfl (Nat.add_assoc _ _ _) rfl rfl (by decide) (RPiece.s_new _ _) fun w hU16358 => ?_)
              have hM := hM.chg hU16358 (i := 2) rfl
              replace hM : MemL _ (pt b_B86_64 (encs ([x16325] : List UInt8)) 5 :: pt b_B86_53 (encs ([x16318] : List UInt8)) 5 :: rowL 0 s15061 156 ((hs15062.set ((IntKind.i64.wrap ((v15060.length : Int) - 1)) : Int).toNat { yx16348 with old := s16326 }).set ((IntKind.i64.wrap ((v15060.length : Int) - 1)) : Int).toNat { yx16360 with new := s16333 }) :: rowL 0 s16326 5 x16332 :: rowL 0 s16333 5 x16339 :: r15064 :: rowL 0 s13654 3 y13653 :: Lr) := hM
              have hMs := selM hM [0, 1, 2, 4, 5, 6] 7 rfl
              refine ⟨_, _, hMs, hM, .inr (by kernel_rfl), ?_⟩
              refine d_end hch (by kernel_rfl) fun w hM => ?_
              refine n_then ?_
              have hP := Option.some.inj hP
              subst hP
              exact ⟨(((v15060.set ((IntKind.i64.wrap ((v15060.length : Int) - 1)) : Int).toNat { x16348 with old := x16332 }).set ((IntKind.i64.wrap ((v15060.length : Int) - 1)) : Int).toNat { x16360 with new := x16339 }), true), rfl, s15061, ((hs15062.set ((IntKind.i64.wrap ((v15060.length : Int) - 1)) : Int).toNat { yx16348 with old := s16326 }).set ((IntKind.i64.wrap ((v15060.length : Int) - 1)) : Int).toNat { yx16360 with new := s16333 }), r15064, s16326, s16333, x16332, x16339, q16363, hF.to ⟨rfl, rfl, rfl, rfl, rfl, rfl, rfl, rfl, rfl, trivial⟩, selM hM [2, 3, 4, 5, 6] 7 rfl⟩
            refine d_ex hF 24 rfl rfl rfl rfl rfl fun w hMs hM => ?_
            refine (w_slice1 (X := UInt8) (y := x16325) Tryz.underlying23 in5 rfl rfl rfl rfl hF rfl rfl rfl fun b_B86_64 w hzB86_64 hAB86_64 => ?_)
            have hM := hM.plus hAB86_64
            replace hM : MemL _ (pt b_B86_64 (encs ([x16325] : List UInt8)) 5 :: rowL 0 s15061 156 hs15062 :: rowL 0 so15065 5 lo15067 :: rowL 0 sn15066 5 ln15068 :: r15064 :: rowL 0 s13654 3 y13653 :: Lr) := hM
            have hMs := selM hM [0, 1, 3, 4, 5] 6 rfl
            refine ⟨_, _, hMs, hM, .inl fun _ h => dropM h 1, fun a hF => ?_⟩
            refine d_one hch 13 (by kernel_rfl) rfl rfl ?_
            refine d_ex hF 13 rfl rfl rfl rfl rfl fun w hMs hM => ?_
            refine (w_slice1 (X := UInt8) (y := x16318) Tryz.underlying23 in5 rfl rfl rfl rfl hF rfl rfl rfl fun b_B86_53 w hzB86_53 hAB86_53 => ?_)
            have hM := hM.plus hAB86_53
            replace hM : MemL _ (pt b_B86_53 (encs ([x16318] : List UInt8)) 5 :: pt b_B86_64 (encs ([x16325] : List UInt8)) 5 :: rowL 0 s15061 156 hs15062 :: rowL 0 so15065 5 lo15067 :: rowL 0 sn15066 5 ln15068 :: r15064 :: rowL 0 s13654 3 y13653 :: Lr) := hM
            have hMs := selM hM [0, 1, 2, 4, 5, 6] 7 rfl
            refine ⟨_, _, hMs, hM, .inl fun _ h => dropM h 1, fun a hF => ?_⟩
            refine d_one hch 14 (by kernel_rfl) rfl rfl ?_
            refine d_ex hF 14 rfl rfl rfl rfl rfl fun w hMs hM => ?_
            have q16327 := q15069
            obtain ⟨hc16328, hP⟩ := must_some hP
            rw [hc16328] at q16327
            obtain ⟨hc16329, hP⟩ := must_some hP
            obtain ⟨e16330, _, e16331, _, _, _⟩ := LastP.last q16327 (of_decide_eq_true hc16329) hx16312 hgx16312
            have e16330 : s16314 = so15065 := e16330
            subst e16330 e16331
            obtain ⟨x16332, hx16332, hP⟩ := bind_some hP
            refine (w_appX (X := UInt8) hx16332 Tryz.underlying23 in5 rfl rfl rfl rfl hF rfl rfl rfl (hM.own (X := UInt8) (i := 3) rfl) (hM.ptS (X := UInt8) (i := 0) (n := 1) (c := 1) rfl rfl rfl (Nat.le_refl _)) fun s16326 w hUs16326 => ?_)
            have hM := hM.chg hUs16326 (i := 3) rfl
            replace hM : MemL _ (pt b_B86_53 (encs ([x16318] : List UInt8)) 5 :: pt b_B86_64 (encs ([x16325] : List UInt8)) 5 :: rowL 0 s15061 156 hs15062 :: rowL 0 s16326 5 x16332 :: rowL 0 sn15066 5 ln15068 :: r15064 :: rowL 0 s13654 3 y13653 :: Lr) := hM
            have hMs := selM hM [0, 1, 2, 4, 5, 6] 7 rfl
            refine ⟨_, _, hMs, hM, .inl fun _ h => h, fun a hF => ?_⟩
            refine d_one hch 25 (by kernel_rfl) rfl rfl ?_
            refine d_ex hF 25 rfl rfl rfl rfl rfl fun w hMs hM => ?_
            have q16334 := q15069
            obtain ⟨hc16335, hP⟩ := must_some hP
            rw [hc16335] at q16334
            obtain ⟨hc16336, hP⟩ := must_some hP
            obtain ⟨_, e16337, _, e16338, _, _⟩ := LastP.last q16334 (of_decide_eq_true hc16336) hx16319 hgx16319
            have e16337 : s16323 = sn15066 := e16337
            subst e16337 e16338
            obtain ⟨x16339, hx16339, hP⟩ := bind_some hP
            refine (w_appX (X := UInt8) hx16339 Tryz.underlying23 in5 rfl rfl rfl rfl hF rfl rfl rfl (hM.own (X := UInt8) (i := 4) rfl) (hM.ptS (X := UInt8) (i := 1) (n := 1) (c := 1) rfl rfl rfl (Nat.le_refl _)) fun s16333 w hUs16333 => ?_)
            have hM := hM.chg hUs16333 (i := 4) rfl
            replace hM : MemL _ (pt b_B86_53 (encs ([x16318] : List UInt8)) 5 :: pt b_B86_64 (encs ([x16325] : List UInt8)) 5 :: rowL 0 s15061 156 hs15062 :: rowL 0 s16326 5 x16332 :: rowL 0 s16333 5 x16339 :: r15064 :: rowL 0 s13654 3 y13653 :: Lr) := hM
            have hMs := selM hM [0, 1, 2, 4, 5, 6] 7 rfl
            refine ⟨_, _, hMs, hM, .inr (by kernel_rfl), fun a hF => ?_⟩
            obtain ⟨x16340, hx16340, hP⟩ := bind_some hP
            have h0x16340 := get_some hx16340
            have hE16341 : Each (QPieceIn (fun w => (r15064).holds' w ∧ (rowL 0 s16314 5 x16312.old).holds' w ∧ (rowL 0 s16323 5 x16319.new).holds' w)) hs15062 v15060 := LastP.each q15069 (fun _ h => h.1) (fun _ h => row_in (X := UInt8) (e := 5) h.2.1) (fun _ h => row_in (X := UInt8) (e := 5) h.2.2)
            obtain ⟨yx16340, hgx16340, hrx16340⟩ := Each.getr hE16341 h0x16340.2
            have hdx16340 := Each.bd hE16341 (get_bd hx16340)
            obtain ⟨s16342, s16344, rfl, f16343, f16345⟩ := hrx16340
            refine d_val hF hch 26 rfl (by kernel_rfl) rfl rfl rfl (fun w hM => (r_indexZ (sz := 4) (hM.rowS (X := RPiece) (i := 2) rfl) Tryz.underlying58 in156 rfl hF rfl rfl rfl hdx16340)) fun a hF => ?_
            refine d_val hF hch 27 rfl (by kernel_rfl) rfl rfl rfl (fun w hM => (r_fieldAddr Tryz.underlying156 rfl in23 rfl hF rfl rfl rfl)) fun a hF => ?_
            refine d_one hch 28 (by kernel_rfl) rfl rfl ?_
            refine d_ex0 28 rfl rfl rfl rfl fun w hMs hM => ?_
            obtain ⟨x16348, hx16348, hP⟩ := bind_some hP
            have q16347 := q15069
            obtain ⟨hc16349, hP⟩ := must_some hP
            rw [hc16349] at q16347
            obtain ⟨hc16350, hP⟩ := must_some hP
            obtain ⟨yx16348, hgx16348⟩ := LastP.getr q16347 hx16348
            have q16351 := LastP.setOld (so' := s16326) (lo' := x16332) (q16347) (of_decide_eq_true hc16350) hx16348 hgx16348
            refine (w_storeRow1 (d := 2) (q := ({ yx16348 with old := s16326 } : RPiece)) Tryz.sizeOf23 (hM.own (X := RPiece) (i := 2) rfl) hgx16348 hF rfl rfl (Nat.add_assoc _ _ _) rfl rfl (by decide) (RPiece.s_old _ _) fun w hU16346 => ?_)
            have hM := hM.chg hU16346 (i := 2) rfl
            replace hM : MemL _ (pt b_B86_53 (encs ([x16318] : List UInt8)) 5 :: pt b_B86_64 (encs ([x16325] : List UInt8)) 5 :: rowL 0 s15061 156 (hs15062.set ((IntKind.i64.wrap ((v15060.length : Int) - 1)) : Int).toNat { yx16348 with old := s16326 }) :: rowL 0 s16326 5 x16332 :: rowL 0 s16333 5 x16339 :: r15064 :: rowL 0 s13654 3 y13653 :: Lr) := hM
            have hMs := selM hM [0, 1, 2, 4, 5, 6] 7 rfl
            refine ⟨_, _, hMs, hM, .inr (by kernel_rfl), ?_⟩
            obtain ⟨x16352, hx16352, hP⟩ := bind_some hP
            have h0x16352 := get_some hx16352
            have hE16353 : Each (QPieceIn (fun w => (r15064).holds' w ∧ (rowL 0 s16326 5 x16332).holds' w ∧ (rowL 0 s16323 5 x16319.new).holds' w)) (hs15062.set ((IntKind.i64.wrap ((v15060.length : Int) - 1)) : Int).toNat { yx16348 with old := s16326 }) (v15060.set ((IntKind.i64.wrap ((v15060.length : Int) - 1)) : Int).toNat { x16348 with old := x16332 }) := LastP.each q16351 (fun _ h => h.1) (fun _ h => row_in (X := UInt8) (e := 5) h.2.1) (fun _ h => row_in (X := UInt8) (e := 5) h.2.2)
            obtain ⟨yx16352, hgx16352, hrx16352⟩ := Each.getr hE16353 h0x16352.2
            have hdx16352 := Each.bd hE16353 (get_bd hx16352)
            obtain ⟨s16354, s16356, rfl, f16355, f16357⟩ := hrx16352
            refine d_val hF hch 29 rfl (by kernel_rfl) rfl rfl rfl (fun w hM => (r_indexZ (sz := 4) (hM.rowS (X := RPiece) (i := 2) rfl) Tryz.underlying58 in156 rfl hF rfl rfl rfl hdx16352)) fun a hF => ?_
            refine d_val hF hch 30 rfl (by kernel_rfl) rfl rfl rfl (fun w hM => (r_fieldAddr Tryz.underlying156 rfl in23 rfl hF rfl rfl rfl)) fun a hF => ?_
            refine d_one hch 31 (by kernel_rfl) rfl rfl ?_
            refine d_ex0 31 rfl rfl rfl rfl fun w hMs hM => ?_
            obtain ⟨x16360, hx16360, hP⟩ := bind_some hP
            have q16359 := q16351
            obtain ⟨hc16361, hP⟩ := must_some hP
            rw [hc16361] at q16359
            obtain ⟨hc16362, hP⟩ := must_some hP
            obtain ⟨yx16360, hgx16360⟩ := LastP.getr q16359 hx16360
            have q16363 := LastP.setNew (sn' := s16333) (ln' := x16339) (q16359) (of_decide_eq_true hc16362) hx16360 hgx16360
            refine (w_storeRow1 (d := 3) (q := ({ yx16360 with new := s16333 } : RPiece)) Tryz.sizeOf23 (hM.own (X := RPiece) (i := 2) rfl) hgx16360 hF rfl rfl (Nat.add_assoc _ _ _) rfl rfl (by decide) (RPiece.s_new _ _) fun w hU16358 => ?_)
            have hM := hM.chg hU16358 (i := 2) rfl
            replace hM : MemL _ (pt b_B86_53 (encs ([x16318] : List UInt8)) 5 :: pt b_B86_64 (encs ([x16325] : List UInt8)) 5 :: rowL 0 s15061 156 ((hs15062.set ((IntKind.i64.wrap ((v15060.length : Int) - 1)) : Int).toNat { yx16348 with old := s16326 }).set ((IntKind.i64.wrap ((v15060.length : Int) - 1)) : Int).toNat { yx16360 with new := s16333 }) :: rowL 0 s16326 5 x16332 :: rowL 0 s16333 5 x16339 :: r15064 :: rowL 0 s13654 3 y13653 :: Lr) := hM
            have hMs := selM hM [0, 1, 2, 4, 5, 6] 7 rfl
            refine ⟨_, _, hMs, hM, .inr (by kernel_rfl), ?_⟩
            refine d_end hch (by kernel_rfl) fun w hM => ?_
            refine n_then ?_
            have hP := Option.some.inj hP
            subst hP
            exact ⟨(((v15060.set ((IntKind.i64.wrap ((v15060.length : Int) - 1)) : Int).toNat { x16348 with old := x16332 }).set ((IntKind.i64.wrap ((v15060.length : Int) - 1)) : Int).toNat { x16360 with new := x16339 }), true), rfl, s15061, ((hs15062.set ((IntKind.i64.wrap ((v15060.length : Int) - 1)) : Int).toNat { yx16348 with old := s16326 }).set ((IntKind.i64.wrap ((v15060.length : Int) - 1)) : Int).toNat { yx16360 with new := s16333 }), r15064, s16326, s16333, x16332, x16339, q16363, hF.to ⟨rfl, rfl, rfl, rfl, rfl, rfl, rfl, rfl, rfl, trivial⟩, selM hM [2, 3, 4, 5, 6] 7 rfl⟩
          rintro ⟨v16301, t16311⟩ a w hP ⟨s16302, hs16303, r16305, so16306, sn16307, lo16308, ln16309, q16310, hF, hM⟩
          replace hP : Sh.trace_pieces_j5 v16301 t16311 = _ := hP
          unfold Sh.trace_pieces_j5 at hP
          refine n_then ?_
          refine c_exit (x_then (x_hit ?_))
          refine n_then ?_
          have hP := Option.some.inj hP
          subst hP
          exact ⟨(v16301, t16311), rfl, s16302, hs16303, r16305, so16306, sn16307, lo16308, ln16309, q16310, hF.to ⟨rfl, rfl, rfl, rfl, rfl, rfl, rfl, rfl, trivial⟩, hM⟩
        have hP := Fx.cF hb16196 hP
        refine c_skip (n_then ?_)
        refine d_startT mixed (by kernel_rfl) hM [0, 1, 2, 3, 4] 5 rfl fun hch => ?_
        refine d_val hF hch 0 rfl (by kernel_rfl) rfl rfl rfl (fun w hM => (r_move hF rfl rfl)) fun a hF => ?_
        refine d_val hF hch 1 rfl (by kernel_rfl) rfl rfl rfl (fun w hM => (r_move hF rfl rfl)) fun a hF => ?_
        refine d_val hF hch 2 rfl (by kernel_rfl) rfl rfl rfl (fun w hM => (r_move hF rfl rfl)) fun a hF => ?_
        refine d_val hF hch 3 rfl (by kernel_rfl) rfl rfl rfl (fun w hM => (r_move hF rfl rfl)) fun a hF => ?_
        refine d_val hF hch 4 rfl (by kernel_rfl) rfl rfl rfl (fun w hM => (r_move hF rfl rfl)) fun a hF => ?_
        obtain ⟨x16364, hx16364, hP⟩ := bind_some hP
        have h0x16364 := get_some hx16364
        refine d_val hF hch 5 rfl (by kernel_rfl) rfl rfl rfl (fun w hM => (r_indexZ (sz := 1) (f2 _ (hsub _ (dropM hM 5))) Tryz.underlying23 in5 rfl hF rfl rfl rfl (get_bd hx16364))) fun a hF => ?_
        refine d_val hF hch 6 rfl (by kernel_rfl) rfl rfl rfl (fun w hM => (r_load1 Tryz.isAgg5 hF rfl rfl ((((f2 _ (hsub _ (dropM hM 5))).elemS h0x16364.2)).get 0 rfl))) fun a hF => ?_
        refine d_val hF hch 8 rfl (by kernel_rfl) rfl rfl rfl (fun w hM => (r_move hF rfl rfl)) fun a hF => ?_
        refine d_val hF hch 9 rfl (by kernel_rfl) rfl rfl rfl (fun w hM => (r_move hF rfl rfl)) fun a hF => ?_
        obtain ⟨x16365, hx16365, hP⟩ := bind_some hP
        have h0x16365 := get_some hx16365
        refine d_val hF hch 10 rfl (by kernel_rfl) rfl rfl rfl (fun w hM => (r_indexZ (sz := 1) (f4 _ (hsub _ (dropM hM 5))) Tryz.underlying23 in5 rfl hF rfl rfl rfl (get_bd hx16365))) fun a hF => ?_
        refine d_val hF hch 11 rfl (by kernel_rfl) rfl rfl rfl (fun w hM => (r_load1 Tryz.isAgg5 hF rfl rfl ((((f4 _ (hsub _ (dropM hM 5))).elemS h0x16365.2)).get 0 rfl))) fun a hF => ?_
        refine d_two hch 7 12 (by kernel_rfl) rfl rfl ?_ ?_
        · refine d_ex hF 7 rfl rfl rfl rfl rfl fun w hMs hM => ?_
          refine (w_slice1 (X := UInt8) (y := x16364) Tryz.underlying23 in5 rfl rfl rfl rfl hF rfl rfl rfl fun b_B86_77 w hzB86_77 hAB86_77 => ?_)
          have hM := hM.plus hAB86_77
          replace hM : MemL _ (pt b_B86_77 (encs ([x16364] : List UInt8)) 5 :: rowL 0 s15061 156 hs15062 :: rowL 0 so15065 5 lo15067 :: rowL 0 sn15066 5 ln15068 :: r15064 :: rowL 0 s13654 3 y13653 :: Lr) := hM
          have hMs := selM hM [0, 1, 2, 3, 4, 5] 6 rfl
          refine ⟨_, _, hMs, hM, .inl fun _ h => dropM h 1, fun a hF => ?_⟩
          refine d_one hch 12 (by kernel_rfl) rfl rfl ?_
          refine d_ex hF 12 rfl rfl rfl rfl rfl fun w hMs hM => ?_
          refine (w_slice1 (X := UInt8) (y := x16365) Tryz.underlying23 in5 rfl rfl rfl rfl hF rfl rfl rfl fun b_B86_82 w hzB86_82 hAB86_82 => ?_)
          have hM := hM.plus hAB86_82
          replace hM : MemL _ (pt b_B86_82 (encs ([x16365] : List UInt8)) 5 :: pt b_B86_77 (encs ([x16364] : List UInt8)) 5 :: rowL 0 s15061 156 hs15062 :: rowL 0 so15065 5 lo15067 :: rowL 0 sn15066 5 ln15068 :: r15064 :: rowL 0 s13654 3 y13653 :: Lr) := hM
          have hMs := selM hM [0, 1, 2, 3, 4, 5, 6] 7 rfl
          refine ⟨_, _, hMs, hM, .inl fun _ h => dropM h 1, fun a hF => ?_⟩
          refine d_val hF hch 13 rfl (by kernel_rfl) rfl rfl rfl (fun w hM => (r_build z156 Tryz.underlying156 pl156 hF (parts := [(0, .tmp 71), (1, .tmp 72), (2, .tmp 77), (3, .tmp 82)]) rfl rfl (fill_s rfl rfl (by rw [RPiece.len]; decide) (RPiece.s_table _ _) (fill_s rfl rfl (by rw [RPiece.len]; decide) (RPiece.s_from_ _ _) (fill_s rfl rfl (by rw [RPiece.len]; decide) (RPiece.s_old _ _) (fill_s rfl rfl (by rw [RPiece.len]; decide) (RPiece.s_new _ _) fill_e)))))) fun a hF => ?_
          refine d_one hch 14 (by kernel_rfl) rfl rfl ?_
          refine d_ex hF 14 rfl rfl rfl rfl rfl fun w hMs hM => ?_
          refine (w_slice1 (X := RPiece) (y := (RPiece.mk x0 x15947 (⟨some ⟨b_B86_77, 0, none⟩, 1, 1⟩) (⟨some ⟨b_B86_82, 0, none⟩, 1, 1⟩))) Tryz.underlying58 in156 rfl rfl rfl rfl hF rfl rfl rfl fun b_B86_84 w hzB86_84 hAB86_84 => ?_)
          have hM := hM.plus hAB86_84
          replace hM : MemL _ (pt b_B86_84 (encs ([(RPiece.mk x0 x15947 (⟨some ⟨b_B86_77, 0, none⟩, 1, 1⟩) (⟨some ⟨b_B86_82, 0, none⟩, 1, 1⟩))] : List RPiece)) 156 :: pt b_B86_82 (encs ([x16365] : List UInt8)) 5 :: pt b_B86_77 (encs ([x16364] : List UInt8)) 5 :: rowL 0 s15061 156 hs15062 :: rowL 0 so15065 5 lo15067 :: rowL 0 sn15066 5 ln15068 :: r15064 :: rowL 0 s13654 3 y13653 :: Lr) := hM
          have hMs := selM hM [0, 1, 2, 3, 4, 5, 6, 7] 8 rfl
          refine ⟨_, _, hMs, hM, .inl fun _ h => dropM h 1, fun a hF => ?_⟩
          refine d_one hch 15 (by kernel_rfl) rfl rfl ?_
          refine d_ex hF 15 rfl rfl rfl rfl rfl fun w hMs hM => ?_
          obtain ⟨x16367, hx16367, hP⟩ := bind_some hP
          refine (w_appD (X := RPiece) hx16367 q15069.len rfl Tryz.underlying58 in156 rfl rfl rfl rfl hF rfl rfl rfl (hM.own (X := RPiece) (i := 3) rfl) (hM.ptS (X := RPiece) (i := 0) (n := 1) (c := 1) rfl rfl rfl (Nat.le_refl _)) fun s16366 w hUs16366 => ?_)
          have hM := hM.chg hUs16366 (i := 3) rfl
          replace hM : MemL _ (pt b_B86_84 (encs ([(RPiece.mk x0 x15947 (⟨some ⟨b_B86_77, 0, none⟩, 1, 1⟩) (⟨some ⟨b_B86_82, 0, none⟩, 1, 1⟩))] : List RPiece)) 156 :: pt b_B86_82 (encs ([x16365] : List UInt8)) 5 :: pt b_B86_77 (encs ([x16364] : List UInt8)) 5 :: rowL 0 s16366 156 (hs15062 ++ [(RPiece.mk x0 x15947 (⟨some ⟨b_B86_77, 0, none⟩, 1, 1⟩) (⟨some ⟨b_B86_82, 0, none⟩, 1, 1⟩))]) :: rowL 0 so15065 5 lo15067 :: rowL 0 sn15066 5 ln15068 :: r15064 :: rowL 0 s13654 3 y13653 :: Lr) := hM
          obtain ⟨r16368, hj16369, hj16370, hM⟩ := joinM (selM hM [6, 4, 0, 1, 2, 3, 5, 7] 8 rfl)
          replace hM : MemL _ (r16368 :: pt b_B86_84 (encs ([(RPiece.mk x0 x15947 (⟨some ⟨b_B86_77, 0, none⟩, 1, 1⟩) (⟨some ⟨b_B86_82, 0, none⟩, 1, 1⟩))] : List RPiece)) 156 :: pt b_B86_82 (encs ([x16365] : List UInt8)) 5 :: pt b_B86_77 (encs ([x16364] : List UInt8)) 5 :: rowL 0 s16366 156 (hs15062 ++ [(RPiece.mk x0 x15947 (⟨some ⟨b_B86_77, 0, none⟩, 1, 1⟩) (⟨some ⟨b_B86_82, 0, none⟩, 1, 1⟩))]) :: rowL 0 sn15066 5 ln15068 :: rowL 0 s13654 3 y13653 :: Lr) := hM
          replace hM : MemL _ (r16368 :: pt b_B86_84 (encs ([(RPiece.mk x0 x15947 (⟨some ⟨b_B86_77, 0, none⟩, 1, 1⟩) (⟨some ⟨b_B86_82, 0, none⟩, 1, 1⟩))] : List RPiece)) 156 :: pt b_B86_82 (encs ([x16365] : List UInt8)) 5 :: pt b_B86_77 (encs ([x16364] : List UInt8)) 5 :: rowL 0 s16366 156 (hs15062 ++ [(RPiece.mk x0 x15947 (⟨some ⟨b_B86_77, 0, none⟩, 1, 1⟩) (⟨some ⟨b_B86_82, 0, none⟩, 1, 1⟩))]) :: rowL 0 sn15066 5 ln15068 :: rowL 0 s13654 3 y13653 :: Lr) := hM
          obtain ⟨r16371, hj16372, hj16373, hM⟩ := joinM (selM hM [0, 5, 1, 2, 3, 4, 6] 7 rfl)
          replace hM : MemL _ (r16371 :: pt b_B86_84 (encs ([(RPiece.mk x0 x15947 (⟨some ⟨b_B86_77, 0, none⟩, 1, 1⟩) (⟨some ⟨b_B86_82, 0, none⟩, 1, 1⟩))] : List RPiece)) 156 :: pt b_B86_82 (encs ([x16365] : List UInt8)) 5 :: pt b_B86_77 (encs ([x16364] : List UInt8)) 5 :: rowL 0 s16366 156 (hs15062 ++ [(RPiece.mk x0 x15947 (⟨some ⟨b_B86_77, 0, none⟩, 1, 1⟩) (⟨some ⟨b_B86_82, 0, none⟩, 1, 1⟩))]) :: rowL 0 s13654 3 y13653 :: Lr) := hM
          have q16374 : Each (QPieceIn r16371.holds') hs15062 v15060 := LastP.each q15069 (fun w h => hj16369 w (hj16372 w h)) (fun w h => row_in (X := UInt8) (e := 5) (hj16370 w (hj16372 w h))) (fun w h => row_in (X := UInt8) (e := 5) (hj16373 w h))
          have hM := hM.ptRow (lo := 0) (i := 3) (n := 1) (c := 1) rfl rfl (Nat.zero_le _) rfl rfl (by decide)
          have hM := hM.ptRow (lo := 0) (i := 2) (n := 1) (c := 1) rfl rfl (Nat.zero_le _) rfl rfl (by decide)
          have q16375 : LastP true r16371.holds' (hs15062 ++ [(RPiece.mk x0 x15947 (⟨some ⟨b_B86_77, 0, none⟩, 1, 1⟩) (⟨some ⟨b_B86_82, 0, none⟩, 1, 1⟩))]) x16367 (⟨some ⟨b_B86_77, 0, none⟩, 1, 1⟩) (⟨some ⟨b_B86_82, 0, none⟩, 1, 1⟩) [x16364] [x16365] := by rw [(app_some hx16367).2]; exact LastP.push q16374
          replace hM : MemL _ (r16371 :: pt b_B86_84 (encs ([(RPiece.mk x0 x15947 (⟨some ⟨b_B86_77, 0, none⟩, 1, 1⟩) (⟨some ⟨b_B86_82, 0, none⟩, 1, 1⟩))] : List RPiece)) 156 :: rowL 0 (⟨some ⟨b_B86_82, 0, none⟩, 1, 1⟩) 5 [x16365] :: rowL 0 (⟨some ⟨b_B86_77, 0, none⟩, 1, 1⟩) 5 [x16364] :: rowL 0 s16366 156 (hs15062 ++ [(RPiece.mk x0 x15947 (⟨some ⟨b_B86_77, 0, none⟩, 1, 1⟩) (⟨some ⟨b_B86_82, 0, none⟩, 1, 1⟩))]) :: rowL 0 s13654 3 y13653 :: Lr) := hM
          have hMs := hM
          refine ⟨_, _, hMs, hM, .inr (by kernel_rfl), fun a hF => ?_⟩
          refine d_one hch 16 (by kernel_rfl) rfl rfl ?_
          refine d_ex hF 16 rfl rfl rfl rfl rfl fun w hMs hM => Yd.val (r_assign hF rfl rfl) ?_
          refine ⟨_, _, hMs, hM, .inl fun _ h => h, fun a hF => ?_⟩
          refine d_end hch (by kernel_rfl) fun w hM => ?_
          refine n_block (n_then ?_)
          have hP := Option.some.inj hP
          subst hP
          exact ⟨(x16367, true), rfl, s16366, (hs15062 ++ [(RPiece.mk x0 x15947 (⟨some ⟨b_B86_77, 0, none⟩, 1, 1⟩) (⟨some ⟨b_B86_82, 0, none⟩, 1, 1⟩))]), r16371, (⟨some ⟨b_B86_77, 0, none⟩, 1, 1⟩), (⟨some ⟨b_B86_82, 0, none⟩, 1, 1⟩), [x16364], [x16365], q16375, hF.to ⟨rfl, rfl, rfl, rfl, rfl, rfl, rfl, rfl, trivial⟩, selM hM [4, 3, 2, 0, 5] 6 rfl⟩
        refine d_ex hF 12 rfl rfl rfl rfl rfl fun w hMs hM => ?_
        refine (w_slice1 (X := UInt8) (y := x16365) Tryz.underlying23 in5 rfl rfl rfl rfl hF rfl rfl rfl fun b_B86_82 w hzB86_82 hAB86_82 => ?_)
        have hM := hM.plus hAB86_82
        replace hM : MemL _ (pt b_B86_82 (encs ([x16365] : List UInt8)) 5 :: rowL 0 s15061 156 hs15062 :: rowL 0 so15065 5 lo15067 :: rowL 0 sn15066 5 ln15068 :: r15064 :: rowL 0 s13654 3 y13653 :: Lr) := hM
        have hMs := selM hM [0, 1, 2, 3, 4, 5] 6 rfl
        refine ⟨_, _, hMs, hM, .inl fun _ h => dropM h 1, fun a hF => ?_⟩
        refine d_one hch 7 (by kernel_rfl) rfl rfl ?_
        refine d_ex hF 7 rfl rfl rfl rfl rfl fun w hMs hM => ?_
        refine (w_slice1 (X := UInt8) (y := x16364) Tryz.underlying23 in5 rfl rfl rfl rfl hF rfl rfl rfl fun b_B86_77 w hzB86_77 hAB86_77 => ?_)
        have hM := hM.plus hAB86_77
        replace hM : MemL _ (pt b_B86_77 (encs ([x16364] : List UInt8)) 5 :: pt b_B86_82 (encs ([x16365] : List UInt8)) 5 :: rowL 0 s15061 156 hs15062 :: rowL 0 so15065 5 lo15067 :: rowL 0 sn15066 5 ln15068 :: r15064 :: rowL 0 s13654 3 y13653 :: Lr) := hM
        have hMs := selM hM [0, 1, 2, 3, 4, 5, 6] 7 rfl
        refine ⟨_, _, hMs, hM, .inl fun _ h => dropM h 1, fun a hF => ?_⟩
        refine d_val hF hch 13 rfl (by kernel_rfl) rfl rfl rfl (fun w hM => (r_build z156 Tryz.underlying156 pl156 hF (parts := [(0, .tmp 71), (1, .tmp 72), (2, .tmp 77), (3, .tmp 82)]) rfl rfl (fill_s rfl rfl (by rw [RPiece.len]; decide) (RPiece.s_table _ _) (fill_s rfl rfl (by rw [RPiece.len]; decide) (RPiece.s_from_ _ _) (fill_s rfl rfl (by rw [RPiece.len]; decide) (RPiece.s_old _ _) (fill_s rfl rfl (by rw [RPiece.len]; decide) (RPiece.s_new _ _) fill_e)))))) fun a hF => ?_
        refine d_one hch 14 (by kernel_rfl) rfl rfl ?_
        refine d_ex hF 14 rfl rfl rfl rfl rfl fun w hMs hM => ?_
        refine (w_slice1 (X := RPiece) (y := (RPiece.mk x0 x15947 (⟨some ⟨b_B86_77, 0, none⟩, 1, 1⟩) (⟨some ⟨b_B86_82, 0, none⟩, 1, 1⟩))) Tryz.underlying58 in156 rfl rfl rfl rfl hF rfl rfl rfl fun b_B86_84 w hzB86_84 hAB86_84 => ?_)
        have hM := hM.plus hAB86_84
        replace hM : MemL _ (pt b_B86_84 (encs ([(RPiece.mk x0 x15947 (⟨some ⟨b_B86_77, 0, none⟩, 1, 1⟩) (⟨some ⟨b_B86_82, 0, none⟩, 1, 1⟩))] : List RPiece)) 156 :: pt b_B86_77 (encs ([x16364] : List UInt8)) 5 :: pt b_B86_82 (encs ([x16365] : List UInt8)) 5 :: rowL 0 s15061 156 hs15062 :: rowL 0 so15065 5 lo15067 :: rowL 0 sn15066 5 ln15068 :: r15064 :: rowL 0 s13654 3 y13653 :: Lr) := hM
        have hMs := selM hM [0, 1, 2, 3, 4, 5, 6, 7] 8 rfl
        refine ⟨_, _, hMs, hM, .inl fun _ h => dropM h 1, fun a hF => ?_⟩
        refine d_one hch 15 (by kernel_rfl) rfl rfl ?_
        refine d_ex hF 15 rfl rfl rfl rfl rfl fun w hMs hM => ?_
        obtain ⟨x16367, hx16367, hP⟩ := bind_some hP
        refine (w_appD (X := RPiece) hx16367 q15069.len rfl Tryz.underlying58 in156 rfl rfl rfl rfl hF rfl rfl rfl (hM.own (X := RPiece) (i := 3) rfl) (hM.ptS (X := RPiece) (i := 0) (n := 1) (c := 1) rfl rfl rfl (Nat.le_refl _)) fun s16366 w hUs16366 => ?_)
        have hM := hM.chg hUs16366 (i := 3) rfl
        replace hM : MemL _ (pt b_B86_84 (encs ([(RPiece.mk x0 x15947 (⟨some ⟨b_B86_77, 0, none⟩, 1, 1⟩) (⟨some ⟨b_B86_82, 0, none⟩, 1, 1⟩))] : List RPiece)) 156 :: pt b_B86_77 (encs ([x16364] : List UInt8)) 5 :: pt b_B86_82 (encs ([x16365] : List UInt8)) 5 :: rowL 0 s16366 156 (hs15062 ++ [(RPiece.mk x0 x15947 (⟨some ⟨b_B86_77, 0, none⟩, 1, 1⟩) (⟨some ⟨b_B86_82, 0, none⟩, 1, 1⟩))]) :: rowL 0 so15065 5 lo15067 :: rowL 0 sn15066 5 ln15068 :: r15064 :: rowL 0 s13654 3 y13653 :: Lr) := hM
        obtain ⟨r16368, hj16369, hj16370, hM⟩ := joinM (selM hM [6, 4, 0, 1, 2, 3, 5, 7] 8 rfl)
        replace hM : MemL _ (r16368 :: pt b_B86_84 (encs ([(RPiece.mk x0 x15947 (⟨some ⟨b_B86_77, 0, none⟩, 1, 1⟩) (⟨some ⟨b_B86_82, 0, none⟩, 1, 1⟩))] : List RPiece)) 156 :: pt b_B86_77 (encs ([x16364] : List UInt8)) 5 :: pt b_B86_82 (encs ([x16365] : List UInt8)) 5 :: rowL 0 s16366 156 (hs15062 ++ [(RPiece.mk x0 x15947 (⟨some ⟨b_B86_77, 0, none⟩, 1, 1⟩) (⟨some ⟨b_B86_82, 0, none⟩, 1, 1⟩))]) :: rowL 0 sn15066 5 ln15068 :: rowL 0 s13654 3 y13653 :: Lr) := hM
        replace hM : MemL _ (r16368 :: pt b_B86_84 (encs ([(RPiece.mk x0 x15947 (⟨some ⟨b_B86_77, 0, none⟩, 1, 1⟩) (⟨some ⟨b_B86_82, 0, none⟩, 1, 1⟩))] : List RPiece)) 156 :: pt b_B86_77 (encs ([x16364] : List UInt8)) 5 :: pt b_B86_82 (encs ([x16365] : List UInt8)) 5 :: rowL 0 s16366 156 (hs15062 ++ [(RPiece.mk x0 x15947 (⟨some ⟨b_B86_77, 0, none⟩, 1, 1⟩) (⟨some ⟨b_B86_82, 0, none⟩, 1, 1⟩))]) :: rowL 0 sn15066 5 ln15068 :: rowL 0 s13654 3 y13653 :: Lr) := hM
        obtain ⟨r16371, hj16372, hj16373, hM⟩ := joinM (selM hM [0, 5, 1, 2, 3, 4, 6] 7 rfl)
        replace hM : MemL _ (r16371 :: pt b_B86_84 (encs ([(RPiece.mk x0 x15947 (⟨some ⟨b_B86_77, 0, none⟩, 1, 1⟩) (⟨some ⟨b_B86_82, 0, none⟩, 1, 1⟩))] : List RPiece)) 156 :: pt b_B86_77 (encs ([x16364] : List UInt8)) 5 :: pt b_B86_82 (encs ([x16365] : List UInt8)) 5 :: rowL 0 s16366 156 (hs15062 ++ [(RPiece.mk x0 x15947 (⟨some ⟨b_B86_77, 0, none⟩, 1, 1⟩) (⟨some ⟨b_B86_82, 0, none⟩, 1, 1⟩))]) :: rowL 0 s13654 3 y13653 :: Lr) := hM
        have q16374 : Each (QPieceIn r16371.holds') hs15062 v15060 := LastP.each q15069 (fun w h => hj16369 w (hj16372 w h)) (fun w h => row_in (X := UInt8) (e := 5) (hj16370 w (hj16372 w h))) (fun w h => row_in (X := UInt8) (e := 5) (hj16373 w h))
        have hM := hM.ptRow (lo := 0) (i := 2) (n := 1) (c := 1) rfl rfl (Nat.zero_le _) rfl rfl (by decide)
        have hM := hM.ptRow (lo := 0) (i := 3) (n := 1) (c := 1) rfl rfl (Nat.zero_le _) rfl rfl (by decide)
        have q16375 : LastP true r16371.holds' (hs15062 ++ [(RPiece.mk x0 x15947 (⟨some ⟨b_B86_77, 0, none⟩, 1, 1⟩) (⟨some ⟨b_B86_82, 0, none⟩, 1, 1⟩))]) x16367 (⟨some ⟨b_B86_77, 0, none⟩, 1, 1⟩) (⟨some ⟨b_B86_82, 0, none⟩, 1, 1⟩) [x16364] [x16365] := by rw [(app_some hx16367).2]; exact LastP.push q16374
        replace hM : MemL _ (r16371 :: pt b_B86_84 (encs ([(RPiece.mk x0 x15947 (⟨some ⟨b_B86_77, 0, none⟩, 1, 1⟩) (⟨some ⟨b_B86_82, 0, none⟩, 1, 1⟩))] : List RPiece)) 156 :: rowL 0 (⟨some ⟨b_B86_77, 0, none⟩, 1, 1⟩) 5 [x16364] :: rowL 0 (⟨some ⟨b_B86_82, 0, none⟩, 1, 1⟩) 5 [x16365] :: rowL 0 s16366 156 (hs15062 ++ [(RPiece.mk x0 x15947 (⟨some ⟨b_B86_77, 0, none⟩, 1, 1⟩) (⟨some ⟨b_B86_82, 0, none⟩, 1, 1⟩))]) :: rowL 0 s13654 3 y13653 :: Lr) := hM
        have hMs := hM
        refine ⟨_, _, hMs, hM, .inr (by kernel_rfl), fun a hF => ?_⟩
        refine d_one hch 16 (by kernel_rfl) rfl rfl ?_
        refine d_ex hF 16 rfl rfl rfl rfl rfl fun w hMs hM => Yd.val (r_assign hF rfl rfl) ?_
        refine ⟨_, _, hMs, hM, .inl fun _ h => h, fun a hF => ?_⟩
        refine d_end hch (by kernel_rfl) fun w hM => ?_
        refine n_block (n_then ?_)
        have hP := Option.some.inj hP
        subst hP
        exact ⟨(x16367, true), rfl, s16366, (hs15062 ++ [(RPiece.mk x0 x15947 (⟨some ⟨b_B86_77, 0, none⟩, 1, 1⟩) (⟨some ⟨b_B86_82, 0, none⟩, 1, 1⟩))]), r16371, (⟨some ⟨b_B86_77, 0, none⟩, 1, 1⟩), (⟨some ⟨b_B86_82, 0, none⟩, 1, 1⟩), [x16364], [x16365], q16375, hF.to ⟨rfl, rfl, rfl, rfl, rfl, rfl, rfl, rfl, trivial⟩, selM hM [4, 2, 3, 0, 5] 6 rfl⟩
      rintro ⟨v15936, t15946⟩ a w hP ⟨s15937, hs15938, r15940, so15941, sn15942, lo15943, ln15944, q15945, hF, hM⟩
      replace hP : Sh.trace_pieces_j3 v15059 v15936 t15946 = _ := hP
      unfold Sh.trace_pieces_j3 at hP
      refine n_then ?_
      refine c_region ?_
      refine s_val hF (r_add hF rfl rfl rfl) rfl rfl rfl fun a hF => ?_
      refine s_val hF (r_move hF rfl rfl) rfl rfl rfl fun a hF => ?_
      refine c_nil (n_then ?_)
      have hP := Option.some.inj hP
      subst hP
      exact ⟨((IntKind.i64.wrap (v15059 + 1)), v15936, t15946), rfl, s15937, hs15938, r15940, so15941, sn15942, lo15943, ln15944, q15945, hF.to ⟨rfl, rfl, rfl, rfl, rfl, rfl, rfl, rfl, trivial⟩, hM⟩
    have hP := Fx.cF hb15077 hP
    refine c_exit (x_then (x_then (x_hit ?_)))
    refine n_then ?_
    have hP := Option.some.inj hP
    subst hP
    have hP := hK_l2 _ rfl
    subst hP
    exact ⟨(v15060, t15070), rfl, s15061, hs15062, r15064, so15065, sn15066, lo15067, ln15068, q15069, hF.to ⟨rfl, rfl, trivial⟩, selM hM [0, 1, 2, 3] 5 rfl⟩
  rintro ⟨v13641, t13651⟩ a w hP ⟨s13642, hs13643, r13645, so13646, sn13647, lo13648, ln13649, q13650, hF, hM⟩
  replace hP : Sh.trace_pieces_j1 v13641 t13651 = _ := hP
  unfold Sh.trace_pieces_j1 at hP
  refine n_then ?_
  refine c_seq ?_
  refine c_region ?_
  refine s_val hF (r_move hF rfl rfl) rfl rfl rfl fun a hF => ?_
  refine s_val hF (r_assign hF rfl rfl) rfl rfl rfl fun a hF => ?_
  refine c_nil (n_then ?_)
  refine c_ret ?_
  replace hM : MemL _ (rowL 0 s13642 156 hs13643 :: rowL 0 so13646 5 lo13648 :: rowL 0 sn13647 5 ln13649 :: r13645 :: Lr) := hM
  obtain ⟨r16376, hj16377, hj16378, hM⟩ := joinM (selM hM [3, 1, 0, 2] 4 rfl)
  replace hM : MemL _ (r16376 :: rowL 0 s13642 156 hs13643 :: rowL 0 sn13647 5 ln13649 :: Lr) := hM
  replace hM : MemL _ (r16376 :: rowL 0 s13642 156 hs13643 :: rowL 0 sn13647 5 ln13649 :: Lr) := hM
  obtain ⟨r16379, hj16380, hj16381, hM⟩ := joinM (selM hM [0, 2, 1] 3 rfl)
  replace hM : MemL _ (r16379 :: rowL 0 s13642 156 hs13643 :: Lr) := hM
  have q16382 : Each (QPieceIn r16379.holds') hs13643 v13641 := LastP.each q13650 (fun w h => hj16377 w (hj16380 w h)) (fun w h => row_in (X := UInt8) (e := 5) (hj16378 w (hj16380 w h))) (fun w h => row_in (X := UInt8) (e := 5) (hj16381 w h))
  have hP := Option.some.inj hP
  subst hP
  refine e_ret1 Tryz.results86 hF rfl ?_
  exact ⟨s13642, hs13643, r16379, rfl, q16382, selM hM [1, 0] 2 rfl⟩
set_option maxHeartbeats 4000000 in
theorem ref23_unlike_calls {x0 : List QPiece} {x1 : Int} {x2 : List UInt8} {x3 : List UInt8} {s1 : SV} {hs2 : List RPiece} {r4 : Res} {s6 : SV} {s8 : SV} {out : List QPiece} {w0 : World} {Bf : World → Prop} {Lr : List Res} (hP : Sh.ref23_unlike x0 x1 x2 x3 = some out) (hM : MemL w0 (rowL 0 s1 156 hs2 :: r4 :: Lr)) (hsub : ∀ w, MemL w Lr → Bf w) (q5 : Each (QPieceIn r4.holds') hs2 x0) (f7 : LIn Bf s6 x2) (f9 : LIn Bf s8 x3) : Calls Tryz.prog 88 #[(s1).v, .int .i64 x1, (s6).v, (s8).v] w0 (Ret fun v w' => ∃ (s2641 : SV) (hs2642 : List RPiece) (r2644 : Res), v = (s2641).v ∧ Each (QPieceIn r2644.holds') hs2642 out ∧ MemL w' (rowL 0 s2641 156 hs2642 :: r2644 :: Lr)) := by
  unfold Sh.ref23_unlike at hP
  refine calls_enter (vs := [(s1).v, .int .i64 x1, (s6).v, (s8).v]) Tryz.func88 rfl Tryz.ntmps88 rfl fun a hF => ?_
  have hM := hM.rowNil (X := UInt8) 0 5
  have hM := hM.rowNil (X := UInt8) 0 5
  have q2646 : LastP false r4.holds' hs2 x0 SV.nil SV.nil [] [] := LastP.none q5
  refine c_seq ?_
  refine c_region ?_
  refine s_val hF (r_assign hF rfl rfl) rfl rfl rfl fun a hF => ?_
  refine c_nil (n_then ?_)
  refine c_seq ?_
  refine c_joinX hF hM hP (fun F x a w => match x with | (v4393, t4403) => ∃ (s4394 : SV) (hs4395 : List RPiece) (r4397 : Res) (so4398 : SV) (sn4399 : SV) (lo4400 : List UInt8) (ln4401 : List UInt8), LastP t4403 r4397.holds' hs4395 v4393 so4398 sn4399 lo4400 ln4401 ∧ Fr 88 [(0, (s4394).v), (8, (SV.nil).v)] a ∧ MemL w (rowL 0 s4394 156 hs4395 :: rowL 0 so4398 5 lo4400 :: rowL 0 sn4399 5 ln4401 :: r4397 :: Lr)) (fun o_j1 hP hK_j1 hF hM => ?_) ?_
  · refine c_seq ?_
    refine c_region ?_
    refine s_val hF (r_assign hF rfl rfl) rfl rfl rfl fun a hF => ?_
    refine c_nil (n_then ?_)
    refine c_block ?_
    refine c_loopX hF hM hP (fun F x a w => match x with | (v4982, t4992, v4993) => ∃ (s4983 : SV) (hs4984 : List RPiece) (r4986 : Res) (so4987 : SV) (sn4988 : SV) (lo4989 : List UInt8) (ln4990 : List UInt8), LastP t4992 r4986.holds' hs4984 v4982 so4987 sn4988 lo4989 ln4990 ∧ Fr 88 [(0, (s4983).v), (9, .int .i64 v4993), (1, .int .i64 x1), (2, (s6).v), (3, (s8).v), (8, (SV.nil).v)] a ∧ MemL w (rowL 0 s4983 156 hs4984 :: rowL 0 so4987 5 lo4989 :: rowL 0 sn4988 5 ln4990 :: r4986 :: Lr)) (fun hF hM => ⟨s1, hs2, r4, SV.nil, SV.nil, [], [], q2646, hF.to ⟨rfl, rfl, rfl, rfl, rfl, rfl, trivial⟩, selM hM [2, 0, 1, 3] 4 rfl⟩) ?_
    rintro ⟨v4982, t4992, v4993⟩ a w o_l2 hP hK_l2 ⟨s4983, hs4984, r4986, so4987, sn4988, lo4989, ln4990, q4991, hF, hM⟩
    replace hP : Sh.ref23_unlike_l2 x1 x2 x3 v4982 t4992 v4993 = _ := hP
    unfold Sh.ref23_unlike_l2 at hP
    refine c_seq ?_
    refine c_seq ?_
    refine c_region ?_
    refine s_val hF (r_move hF rfl rfl) rfl rfl rfl fun a hF => ?_
    refine s_val hF (r_move hF rfl rfl) rfl rfl rfl fun a hF => ?_
    refine s_val hF (r_lenL (f7 _ (hsub _ (dropM hM 4))) Tryz.underlying23 hF rfl rfl) rfl rfl rfl fun a hF => ?_
    refine s_val hF (r_lss hF rfl rfl rfl) rfl rfl rfl fun a hF => ?_
    refine c_nil (n_then ?_)
    refine c_cond hF (c := .tmp 14) rfl (fun hb4995 => ?_) (fun hb4995 => ?_)
    · have hP := Fx.cT hb4995 hP
      refine c_skip (n_then ?_)
      refine c_seq ?_
      refine c_joinX hF hM hP (fun F x a w => match x with | (v5176, t5186) => ∃ (s5177 : SV) (hs5178 : List RPiece) (r5180 : Res) (so5181 : SV) (sn5182 : SV) (lo5183 : List UInt8) (ln5184 : List UInt8), LastP t5186 r5180.holds' hs5178 v5176 so5181 sn5182 lo5183 ln5184 ∧ Fr 88 [(0, (s5177).v), (1, .int .i64 x1), (2, (s6).v), (3, (s8).v), (8, (SV.nil).v), (9, .int .i64 v4993)] a ∧ MemL w (rowL 0 s5177 156 hs5178 :: rowL 0 so5181 5 lo5183 :: rowL 0 sn5182 5 ln5184 :: r5180 :: Lr)) (fun o_j3 hP hK_j3 hF hM => ?_) ?_
      · refine c_block ?_
        refine c_seq ?_
        refine c_seq ?_
        refine d_startT mixed (by kernel_rfl) hM [0, 1, 2, 3] 4 rfl fun hch => ?_
        refine d_val hF hch 0 rfl (by kernel_rfl) rfl rfl rfl (fun w hM => (r_move hF rfl rfl)) fun a hF => ?_
        refine d_val hF hch 1 rfl (by kernel_rfl) rfl rfl rfl (fun w hM => (r_move hF rfl rfl)) fun a hF => ?_
        obtain ⟨x5194, hx5194, hP⟩ := bind_some hP
        have h0x5194 := get_some hx5194
        refine d_val hF hch 2 rfl (by kernel_rfl) rfl rfl rfl (fun w hM => (r_indexZ (sz := 1) (f7 _ (hsub _ (dropM hM 4))) Tryz.underlying23 in5 rfl hF rfl rfl rfl (get_bd hx5194))) fun a hF => ?_
        refine d_val hF hch 3 rfl (by kernel_rfl) rfl rfl rfl (fun w hM => (r_load1 Tryz.isAgg5 hF rfl rfl ((((f7 _ (hsub _ (dropM hM 4))).elemS h0x5194.2)).get 0 rfl))) fun a hF => ?_
        refine d_val hF hch 4 rfl (by kernel_rfl) rfl rfl rfl (fun w hM => (r_move hF rfl rfl)) fun a hF => ?_
        refine d_val hF hch 5 rfl (by kernel_rfl) rfl rfl rfl (fun w hM => (r_move hF rfl rfl)) fun a hF => ?_
        obtain ⟨x5195, hx5195, hP⟩ := bind_some hP
        have h0x5195 := get_some hx5195
        refine d_val hF hch 6 rfl (by kernel_rfl) rfl rfl rfl (fun w hM => (r_indexZ (sz := 1) (f9 _ (hsub _ (dropM hM 4))) Tryz.underlying23 in5 rfl hF rfl rfl rfl (get_bd hx5195))) fun a hF => ?_
        refine d_val hF hch 7 rfl (by kernel_rfl) rfl rfl rfl (fun w hM => (r_load1 Tryz.isAgg5 hF rfl rfl ((((f9 _ (hsub _ (dropM hM 4))).elemS h0x5195.2)).get 0 rfl))) fun a hF => ?_
        refine d_val hF hch 8 rfl (by kernel_rfl) rfl rfl rfl (fun w hM => (r_eql hF rfl rfl rfl)) fun a hF => ?_
        refine d_end hch (by kernel_rfl) fun w hM => ?_
        refine n_then ?_
        refine c_cond hF (c := .tmp 25) rfl (fun hb5196 => ?_) (fun hb5196 => ?_)
        · have hP := Fx.cT hb5196 hP
          refine c_exit (x_then (x_hit ?_))
          refine n_then ?_
          have hP := Option.some.inj hP
          subst hP
          exact ⟨(v4982, t4992), rfl, s4983, hs4984, r4986, so4987, sn4988, lo4989, ln4990, q4991, hF.to ⟨rfl, rfl, rfl, rfl, rfl, rfl, trivial⟩, hM⟩
        have hP := Fx.cF hb5196 hP
        refine c_skip (n_then ?_)
        refine c_seq ?_
        refine c_joinX hF hM hP (fun F x a w => match x with | v5203 => Fr 88 [(40, .bool v5203), (0, (s4983).v), (1, .int .i64 x1), (2, (s6).v), (3, (s8).v), (8, (SV.nil).v), (9, .int .i64 v4993)] a ∧ MemL w (rowL 0 s4983 156 hs4984 :: rowL 0 so4987 5 lo4989 :: rowL 0 sn4988 5 ln4990 :: r4986 :: Lr)) (fun o_j4 hP hK_j4 hF hM => ?_) ?_
        · refine d_startT mixed (by kernel_rfl) hM [0, 1, 2, 3] 4 rfl fun hch => ?_
          refine d_val hF hch 0 rfl (by kernel_rfl) rfl rfl rfl (fun w hM => (r_move hF rfl rfl)) fun a hF => ?_
          refine d_val hF hch 1 rfl (by kernel_rfl) rfl rfl rfl (fun w hM => (r_gtr hF rfl rfl rfl)) fun a hF => ?_
          refine d_val hF hch 2 rfl (by kernel_rfl) rfl rfl rfl (fun w hM => (r_move hF rfl rfl)) fun a hF => ?_
          refine g_split 28 hF rfl (fun hb5204 => ?_) (fun hb5204 => ?_)
          · have hP := Fx.cT hb5204 hP
            refine d_valg hF hch 3 rfl (by kernel_rfl) rfl rfl rfl hb5204 rfl rfl (fun w hM => (r_move hF rfl rfl)) fun a hF => ?_
            refine d_valg hF hch 4 rfl (by kernel_rfl) rfl rfl rfl hb5204 rfl rfl (fun w hM => (r_move hF rfl rfl)) fun a hF => ?_
            refine d_valg hF hch 5 rfl (by kernel_rfl) rfl rfl rfl hb5204 rfl rfl (fun w hM => (r_sub hF rfl rfl rfl)) fun a hF => ?_
            obtain ⟨x5205, hx5205, hP⟩ := bind_some hP
            have h0x5205 := get_some hx5205
            refine d_valg hF hch 6 rfl (by kernel_rfl) rfl rfl rfl hb5204 rfl rfl (fun w hM => (r_indexZ (sz := 1) (f7 _ (hsub _ (dropM hM 4))) Tryz.underlying23 in5 rfl hF rfl rfl rfl (get_bd hx5205))) fun a hF => ?_
            refine d_valg hF hch 7 rfl (by kernel_rfl) rfl rfl rfl hb5204 rfl rfl (fun w hM => (r_load1 Tryz.isAgg5 hF rfl rfl ((((f7 _ (hsub _ (dropM hM 4))).elemS h0x5205.2)).get 0 rfl))) fun a hF => ?_
            refine d_valg hF hch 8 rfl (by kernel_rfl) rfl rfl rfl hb5204 rfl rfl (fun w hM => (r_move hF rfl rfl)) fun a hF => ?_
            refine d_valg hF hch 9 rfl (by kernel_rfl) rfl rfl rfl hb5204 rfl rfl (fun w hM => (r_move hF rfl rfl)) fun a hF => ?_
            refine d_valg hF hch 10 rfl (by kernel_rfl) rfl rfl rfl hb5204 rfl rfl (fun w hM => (r_sub hF rfl rfl rfl)) fun a hF => ?_
            obtain ⟨x5206, hx5206, hP⟩ := bind_some hP
            have h0x5206 := get_some hx5206
            refine d_valg hF hch 11 rfl (by kernel_rfl) rfl rfl rfl hb5204 rfl rfl (fun w hM => (r_indexZ (sz := 1) (f9 _ (hsub _ (dropM hM 4))) Tryz.underlying23 in5 rfl hF rfl rfl rfl (get_bd hx5206))) fun a hF => ?_
            refine d_valg hF hch 12 rfl (by kernel_rfl) rfl rfl rfl hb5204 rfl rfl (fun w hM => (r_load1 Tryz.isAgg5 hF rfl rfl ((((f9 _ (hsub _ (dropM hM 4))).elemS h0x5206.2)).get 0 rfl))) fun a hF => ?_
            refine d_valg hF hch 13 rfl (by kernel_rfl) rfl rfl rfl hb5204 rfl rfl (fun w hM => (r_neq hF rfl rfl rfl)) fun a hF => ?_
            refine d_val hF hch 14 rfl (by kernel_rfl) rfl rfl rfl (fun w hM => (r_pick1 hF rfl rfl hb5204 rfl)) fun a hF => ?_
            refine d_end hch (by kernel_rfl) fun w hM => ?_
            refine n_then ?_
            have hP := Option.some.inj hP
            subst hP
            exact ⟨(!decide ((x5205.toNat : Int) = (x5206.toNat : Int))), rfl, hF.to ⟨rfl, rfl, rfl, rfl, rfl, rfl, rfl, trivial⟩, hM⟩
          have hP := Fx.cF hb5204 hP
          refine d_skip hF hch 3 rfl (by kernel_rfl) rfl rfl rfl hb5204 rfl rfl fun a hF => ?_
          refine d_skip hF hch 4 rfl (by kernel_rfl) rfl rfl rfl hb5204 rfl rfl fun a hF => ?_
          refine d_skip hF hch 5 rfl (by kernel_rfl) rfl rfl rfl hb5204 rfl rfl fun a hF => ?_
          refine d_skip hF hch 6 rfl (by kernel_rfl) rfl rfl rfl hb5204 rfl rfl fun a hF => ?_
          refine d_skip hF hch 7 rfl (by kernel_rfl) rfl rfl rfl hb5204 rfl rfl fun a hF => ?_
          refine d_skip hF hch 8 rfl (by kernel_rfl) rfl rfl rfl hb5204 rfl rfl fun a hF => ?_
          refine d_skip hF hch 9 rfl (by kernel_rfl) rfl rfl rfl hb5204 rfl rfl fun a hF => ?_
          refine d_skip hF hch 10 rfl (by kernel_rfl) rfl rfl rfl hb5204 rfl rfl fun a hF => ?_
          refine d_skip hF hch 11 rfl (by kernel_rfl) rfl rfl rfl hb5204 rfl rfl fun a hF => ?_
          refine d_skip hF hch 12 rfl (by kernel_rfl) rfl rfl rfl hb5204 rfl rfl fun a hF => ?_
          refine d_skip hF hch 13 rfl (by kernel_rfl) rfl rfl rfl hb5204 rfl rfl fun a hF => ?_
          refine d_val hF hch 14 rfl (by kernel_rfl) rfl rfl rfl (fun w hM => (r_pick0 hF rfl rfl hb5204 rfl)) fun a hF => ?_
          refine d_end hch (by kernel_rfl) fun w hM => ?_
          refine n_then ?_
          have hP := Option.some.inj hP
          subst hP
          exact ⟨false, rfl, hF.to ⟨rfl, rfl, rfl, rfl, rfl, rfl, rfl, trivial⟩, hM⟩
        rintro v5203 a w hP ⟨hF, hM⟩
        replace hP : Sh.ref23_unlike_j4 x1 x2 x3 v4982 t4992 v4993 v5203 = _ := hP
        unfold Sh.ref23_unlike_j4 at hP
        refine n_then ?_
        refine c_cond hF (c := .tmp 40) rfl (fun hb5207 => ?_) (fun hb5207 => ?_)
        · have hP := Fx.cT hb5207 hP
          refine c_seq ?_
          refine c_region ?_
          refine s_val hF (r_move hF rfl rfl) rfl rfl rfl fun a hF => ?_
          refine s_val hF (r_move hF rfl rfl) rfl rfl rfl fun a hF => ?_
          refine s_val hF (r_lenD (hM.rowS (X := RPiece) (i := 0) rfl) q4991.len Tryz.underlying58 hF rfl rfl) rfl rfl rfl fun a hF => ?_
          refine s_val hF (r_sub hF rfl rfl rfl) rfl rfl rfl fun a hF => ?_
          obtain ⟨x5208, hx5208, hP⟩ := bind_some hP
          have h0x5208 := get_some hx5208
          have hE5209 : Each (QPieceIn (fun w => (r4986).holds' w ∧ (rowL 0 so4987 5 lo4989).holds' w ∧ (rowL 0 sn4988 5 ln4990).holds' w)) hs4984 v4982 := LastP.each q4991 (fun _ h => h.1) (fun _ h => row_in (X := UInt8) (e := 5) h.2.1) (fun _ h => row_in (X := UInt8) (e := 5) h.2.2)
          obtain ⟨yx5208, hgx5208, hrx5208⟩ := Each.getr hE5209 h0x5208.2
          have hdx5208 := Each.bd hE5209 (get_bd hx5208)
          obtain ⟨s5210, s5212, rfl, f5211, f5213⟩ := hrx5208
          refine s_val hF (r_indexZ (sz := 4) (hM.rowS (X := RPiece) (i := 0) rfl) Tryz.underlying58 in156 rfl hF rfl rfl rfl hdx5208) rfl rfl rfl fun a hF => ?_
          refine s_val hF (r_loadn Tryz.isAgg156 Tryz.sizeOf156 hF rfl rfl (RPiece.len _) (((hM.rowS (X := RPiece) (i := 0) rfl).elemS hgx5208))) rfl rfl rfl fun a hF => ?_
          refine s_eff hF rfl rfl rfl (w_alloc z156 (zs := RPiece.zero.enc) rfl rfl fun b_B88_10 w hzB88_10 hAB88_10 => ?_)
          have hM := hM.plus hAB88_10
          replace hM : MemL _ (pt b_B88_10 (RPiece.enc (RPiece.mk 0 0 SV.nil SV.nil)) 156 :: rowL 0 s4983 156 hs4984 :: rowL 0 so4987 5 lo4989 :: rowL 0 sn4988 5 ln4990 :: r4986 :: Lr) := hM
          intro a hF
          refine s_eff0 rfl rfl (w_storen (vs := _) Tryz.sizeOf156 (hM.obj (i := 0) rfl) hF rfl rfl rfl rfl (RPiece.len _) (RPiece.one _) (by first | (rw [RPiece.len, RPiece.len]; decide) | (rw [RPiece.len]; decide)) (put_all ((RPiece.len _).trans (RPiece.len _).symm)) fun w hU5214 => ?_)
          have hM := hM.chg hU5214 (i := 0) rfl
          replace hM : MemL _ (pt b_B88_10 (RPiece.enc (RPiece.mk x5208.table x5208.from_ s5210 s5212)) 156 :: rowL 0 s4983 156 hs4984 :: rowL 0 so4987 5 lo4989 :: rowL 0 sn4988 5 ln4990 :: r4986 :: Lr) := hM
          refine c_nil (n_then ?_)
          refine c_seq ?_
          refine d_startT mixed (by kernel_rfl) hM [0, 1, 2, 3, 4] 5 rfl fun hch => ?_
          refine d_val hF hch 0 rfl (by kernel_rfl) rfl rfl rfl (fun w hM => (r_fieldAddr (off' := 2) Tryz.underlying156 rfl in23 rfl hF rfl rfl rfl)) fun a hF => ?_
          refine d_val hF hch 1 rfl (by kernel_rfl) rfl rfl rfl (fun w hM => (r_load1 Tryz.isAgg23 hF rfl rfl (hM.cell (i := 0) rfl (RPiece.g_old _)))) fun a hF => ?_
          refine d_val hF hch 2 rfl (by kernel_rfl) rfl rfl rfl (fun w hM => (r_move hF rfl rfl)) fun a hF => ?_
          refine d_val hF hch 3 rfl (by kernel_rfl) rfl rfl rfl (fun w hM => (r_move hF rfl rfl)) fun a hF => ?_
          obtain ⟨x5224, hx5224, hP⟩ := bind_some hP
          have h0x5224 := get_some hx5224
          refine d_val hF hch 4 rfl (by kernel_rfl) rfl rfl rfl (fun w hM => (r_indexZ (sz := 1) (f7 _ (hsub _ (dropM hM 5))) Tryz.underlying23 in5 rfl hF rfl rfl rfl (get_bd hx5224))) fun a hF => ?_
          refine d_val hF hch 5 rfl (by kernel_rfl) rfl rfl rfl (fun w hM => (r_load1 Tryz.isAgg5 hF rfl rfl ((((f7 _ (hsub _ (dropM hM 5))).elemS h0x5224.2)).get 0 rfl))) fun a hF => ?_
          refine d_one hch 6 (by kernel_rfl) rfl rfl ?_
          refine d_ex hF 6 rfl rfl rfl rfl rfl fun w hMs hM => ?_
          refine (w_slice1 (X := UInt8) (y := x5224) Tryz.underlying23 in5 rfl rfl rfl rfl hF rfl rfl rfl fun b_B88_53 w hzB88_53 hAB88_53 => ?_)
          have hM := hM.plus hAB88_53
          replace hM : MemL _ (pt b_B88_53 (encs ([x5224] : List UInt8)) 5 :: pt b_B88_10 (RPiece.enc (RPiece.mk x5208.table x5208.from_ s5210 s5212)) 156 :: rowL 0 s4983 156 hs4984 :: rowL 0 so4987 5 lo4989 :: rowL 0 sn4988 5 ln4990 :: r4986 :: Lr) := hM
          have hMs := selM hM [0, 1, 2, 3, 4, 5] 6 rfl
          refine ⟨_, _, hMs, hM, .inl fun _ h => dropM h 1, fun a hF => ?_⟩
          refine d_one hch 7 (by kernel_rfl) rfl rfl ?_
          refine d_ex hF 7 rfl rfl rfl rfl rfl fun w hMs hM => ?_
          have q5226 := q4991
          obtain ⟨hc5227, hP⟩ := must_some hP
          rw [hc5227] at q5226
          obtain ⟨hc5228, hP⟩ := must_some hP
          obtain ⟨e5229, _, e5230, _, _, _⟩ := LastP.last q5226 (of_decide_eq_true hc5228) hx5208 hgx5208
          have e5229 : s5210 = so4987 := e5229
          subst e5229 e5230
          obtain ⟨x5231, hx5231, hP⟩ := bind_some hP
          refine (w_appX (X := UInt8) hx5231 Tryz.underlying23 in5 rfl rfl rfl rfl hF rfl rfl rfl (hM.own (X := UInt8) (i := 3) rfl) (hM.ptS (X := UInt8) (i := 0) (n := 1) (c := 1) rfl rfl rfl (Nat.le_refl _)) fun s5225 w hUs5225 => ?_)
          have hM := hM.chg hUs5225 (i := 3) rfl
          replace hM : MemL _ (pt b_B88_53 (encs ([x5224] : List UInt8)) 5 :: pt b_B88_10 (RPiece.enc (RPiece.mk x5208.table x5208.from_ s5210 s5212)) 156 :: rowL 0 s4983 156 hs4984 :: rowL 0 s5225 5 x5231 :: rowL 0 sn4988 5 ln4990 :: r4986 :: Lr) := hM
          have hMs := hM
          refine ⟨_, _, hMs, hM, .inr (by kernel_rfl), fun a hF => ?_⟩
          refine d_val hF hch 8 rfl (by kernel_rfl) rfl rfl rfl (fun w hM => (r_fieldAddr (off' := 2) Tryz.underlying156 rfl in23 rfl hF rfl rfl rfl)) fun a hF => ?_
          refine d_one hch 9 (by kernel_rfl) rfl rfl ?_
          refine d_ex0 9 rfl rfl rfl rfl fun w hMs hM => ?_
          refine (w_store1 Tryz.sizeOf23 (hM.obj (i := 1) rfl) hF rfl rfl rfl rfl (by rw [RPiece.len]; decide) (RPiece.s_old _ _) fun w hU5232 => ?_)
          have hM := hM.chg hU5232 (i := 1) rfl
          replace hM : MemL _ (pt b_B88_53 (encs ([x5224] : List UInt8)) 5 :: pt b_B88_10 (RPiece.enc (RPiece.mk x5208.table x5208.from_ s5225 s5212)) 156 :: rowL 0 s4983 156 hs4984 :: rowL 0 s5225 5 x5231 :: rowL 0 sn4988 5 ln4990 :: r4986 :: Lr) := hM
          have hMs := hM
          refine ⟨_, _, hMs, hM, .inr (by kernel_rfl), ?_⟩
          refine d_end hch (by kernel_rfl) fun w hM => ?_
          refine n_then ?_
          refine c_seq ?_
          refine d_startT mixed (by kernel_rfl) hM [0, 1, 2, 3, 4, 5] 6 rfl fun hch => ?_
          refine d_val hF hch 0 rfl (by kernel_rfl) rfl rfl rfl (fun w hM => (r_fieldAddr (off' := 3) Tryz.underlying156 rfl in23 rfl hF rfl rfl rfl)) fun a hF => ?_
          refine d_val hF hch 1 rfl (by kernel_rfl) rfl rfl rfl (fun w hM => (r_load1 Tryz.isAgg23 hF rfl rfl (hM.cell (i := 1) rfl (RPiece.g_new _)))) fun a hF => ?_
          refine d_val hF hch 2 rfl (by kernel_rfl) rfl rfl rfl (fun w hM => (r_move hF rfl rfl)) fun a hF => ?_
          refine d_val hF hch 3 rfl (by kernel_rfl) rfl rfl rfl (fun w hM => (r_move hF rfl rfl)) fun a hF => ?_
          obtain ⟨x5242, hx5242, hP⟩ := bind_some hP
          have h0x5242 := get_some hx5242
          refine d_val hF hch 4 rfl (by kernel_rfl) rfl rfl rfl (fun w hM => (r_indexZ (sz := 1) (f9 _ (hsub _ (dropM hM 6))) Tryz.underlying23 in5 rfl hF rfl rfl rfl (get_bd hx5242))) fun a hF => ?_
          refine d_val hF hch 5 rfl (by kernel_rfl) rfl rfl rfl (fun w hM => (r_load1 Tryz.isAgg5 hF rfl rfl ((((f9 _ (hsub _ (dropM hM 6))).elemS h0x5242.2)).get 0 rfl))) fun a hF => ?_
          refine d_one hch 6 (by kernel_rfl) rfl rfl ?_
          refine d_ex hF 6 rfl rfl rfl rfl rfl fun w hMs hM => ?_
          refine (w_slice1 (X := UInt8) (y := x5242) Tryz.underlying23 in5 rfl rfl rfl rfl hF rfl rfl rfl fun b_B88_62 w hzB88_62 hAB88_62 => ?_)
          have hM := hM.plus hAB88_62
          replace hM : MemL _ (pt b_B88_62 (encs ([x5242] : List UInt8)) 5 :: pt b_B88_53 (encs ([x5224] : List UInt8)) 5 :: pt b_B88_10 (RPiece.enc (RPiece.mk x5208.table x5208.from_ s5225 s5212)) 156 :: rowL 0 s4983 156 hs4984 :: rowL 0 s5225 5 x5231 :: rowL 0 sn4988 5 ln4990 :: r4986 :: Lr) := hM
          have hMs := selM hM [0, 1, 2, 3, 4, 5, 6] 7 rfl
          refine ⟨_, _, hMs, hM, .inl fun _ h => dropM h 1, fun a hF => ?_⟩
          refine d_one hch 7 (by kernel_rfl) rfl rfl ?_
          refine d_ex hF 7 rfl rfl rfl rfl rfl fun w hMs hM => ?_
          have q5244 := q4991
          obtain ⟨hc5245, hP⟩ := must_some hP
          rw [hc5245] at q5244
          obtain ⟨hc5246, hP⟩ := must_some hP
          obtain ⟨_, e5247, _, e5248, _, _⟩ := LastP.last q5244 (of_decide_eq_true hc5246) hx5208 hgx5208
          have e5247 : s5212 = sn4988 := e5247
          subst e5247 e5248
          obtain ⟨x5249, hx5249, hP⟩ := bind_some hP
          refine (w_appX (X := UInt8) hx5249 Tryz.underlying23 in5 rfl rfl rfl rfl hF rfl rfl rfl (hM.own (X := UInt8) (i := 5) rfl) (hM.ptS (X := UInt8) (i := 0) (n := 1) (c := 1) rfl rfl rfl (Nat.le_refl _)) fun s5243 w hUs5243 => ?_)
          have hM := hM.chg hUs5243 (i := 5) rfl
          replace hM : MemL _ (pt b_B88_62 (encs ([x5242] : List UInt8)) 5 :: pt b_B88_53 (encs ([x5224] : List UInt8)) 5 :: pt b_B88_10 (RPiece.enc (RPiece.mk x5208.table x5208.from_ s5225 s5212)) 156 :: rowL 0 s4983 156 hs4984 :: rowL 0 s5225 5 x5231 :: rowL 0 s5243 5 x5249 :: r4986 :: Lr) := hM
          have hMs := hM
          refine ⟨_, _, hMs, hM, .inr (by kernel_rfl), fun a hF => ?_⟩
          refine d_val hF hch 8 rfl (by kernel_rfl) rfl rfl rfl (fun w hM => (r_fieldAddr (off' := 3) Tryz.underlying156 rfl in23 rfl hF rfl rfl rfl)) fun a hF => ?_
          refine d_one hch 9 (by kernel_rfl) rfl rfl ?_
          refine d_ex0 9 rfl rfl rfl rfl fun w hMs hM => ?_
          refine (w_store1 Tryz.sizeOf23 (hM.obj (i := 2) rfl) hF rfl rfl rfl rfl (by rw [RPiece.len]; decide) (RPiece.s_new _ _) fun w hU5250 => ?_)
          have hM := hM.chg hU5250 (i := 2) rfl
          replace hM : MemL _ (pt b_B88_62 (encs ([x5242] : List UInt8)) 5 :: pt b_B88_53 (encs ([x5224] : List UInt8)) 5 :: pt b_B88_10 (RPiece.enc (RPiece.mk x5208.table x5208.from_ s5225 s5243)) 156 :: rowL 0 s4983 156 hs4984 :: rowL 0 s5225 5 x5231 :: rowL 0 s5243 5 x5249 :: r4986 :: Lr) := hM
          have hMs := hM
          refine ⟨_, _, hMs, hM, .inr (by kernel_rfl), ?_⟩
          refine d_end hch (by kernel_rfl) fun w hM => ?_
          refine n_then ?_
          refine c_region ?_
          refine s_val hF (r_move hF rfl rfl) rfl rfl rfl fun a hF => ?_
          refine s_val hF (r_move hF rfl rfl) rfl rfl rfl fun a hF => ?_
          refine s_val hF (r_lenD (hM.rowS (X := RPiece) (i := 3) rfl) q4991.len Tryz.underlying58 hF rfl rfl) rfl rfl rfl fun a hF => ?_
          refine s_val hF (r_sub hF rfl rfl rfl) rfl rfl rfl fun a hF => ?_
          refine s_val hF (r_loadn Tryz.isAgg156 Tryz.sizeOf156 hF rfl rfl (RPiece.len _) (hM.cells (i := 2) rfl (cut_all (RPiece.len _)))) rfl rfl rfl fun a hF => ?_
          obtain ⟨x5251, hx5251, hP⟩ := bind_some hP
          have h0x5251 := get_some hx5251
          have hE5252 : Each (QPieceIn (fun w => (r4986).holds' w ∧ (rowL 0 s5210 5 x5208.old).holds' w ∧ (rowL 0 s5212 5 x5208.new).holds' w)) hs4984 v4982 := LastP.each q4991 (fun _ h => h.1) (fun _ h => row_in (X := UInt8) (e := 5) h.2.1) (fun _ h => row_in (X := UInt8) (e := 5) h.2.2)
          obtain ⟨yx5251, hgx5251, hrx5251⟩ := Each.getr hE5252 h0x5251.2
          have hdx5251 := Each.bd hE5252 (get_bd hx5251)
          obtain ⟨s5253, s5255, rfl, f5254, f5256⟩ := hrx5251
          refine s_val hF (r_indexZ (sz := 4) (hM.rowS (X := RPiece) (i := 3) rfl) Tryz.underlying58 in156 rfl hF rfl rfl rfl hdx5251) rfl rfl rfl fun a hF => ?_
          obtain ⟨x5259, hx5259, hP⟩ := bind_some hP
          have q5258 := q4991
          obtain ⟨hc5260, hP⟩ := must_some hP
          rw [hc5260] at q5258
          obtain ⟨hc5261, hP⟩ := must_some hP
          obtain ⟨yx5259, hgx5259⟩ := LastP.getr q5258 hx5259
          obtain ⟨hc5263, hP⟩ := must_some hP
          obtain ⟨hc5264, hP⟩ := must_some hP
          have q5262 : LastP true r4986.holds' (hs4984.set ((IntKind.i64.wrap ((v4982.length : Int) - 1)) : Int).toNat (RPiece.mk x5208.table x5208.from_ s5225 s5243)) (v4982.set ((IntKind.i64.wrap ((v4982.length : Int) - 1)) : Int).toNat (QPiece.mk x5208.table x5208.from_ x5231 x5249)) s5225 s5243 x5231 x5249 := (by rw [of_decide_eq_true hc5263, of_decide_eq_true hc5264]; exact LastP.setAll q5258 (of_decide_eq_true hc5261) hx5259 hgx5259)
          refine s_eff0 rfl rfl (w_storeRow (d := 0) (vs := _) (q := (RPiece.mk x5208.table x5208.from_ s5225 s5243)) Tryz.sizeOf156 (hM.own (X := RPiece) (i := 3) rfl) hgx5259 hF rfl rfl rfl rfl rfl (RPiece.len _) (RPiece.one _) (by rw [RPiece.len]; decide) (put_all ((RPiece.len _).trans (RPiece.len _).symm)) fun w hU5257 => ?_)
          have hM := hM.chg hU5257 (i := 3) rfl
          replace hM : MemL _ (pt b_B88_62 (encs ([x5242] : List UInt8)) 5 :: pt b_B88_53 (encs ([x5224] : List UInt8)) 5 :: pt b_B88_10 (RPiece.enc (RPiece.mk x5208.table x5208.from_ s5225 s5243)) 156 :: rowL 0 s4983 156 (hs4984.set ((IntKind.i64.wrap ((v4982.length : Int) - 1)) : Int).toNat (RPiece.mk x5208.table x5208.from_ s5225 s5243)) :: rowL 0 s5225 5 x5231 :: rowL 0 s5243 5 x5249 :: r4986 :: Lr) := hM
          refine c_nil (n_block (n_then ?_))
          have hP := Option.some.inj hP
          subst hP
          exact ⟨((v4982.set ((IntKind.i64.wrap ((v4982.length : Int) - 1)) : Int).toNat (QPiece.mk x5208.table x5208.from_ x5231 x5249)), true), rfl, s4983, (hs4984.set ((IntKind.i64.wrap ((v4982.length : Int) - 1)) : Int).toNat (RPiece.mk x5208.table x5208.from_ s5225 s5243)), r4986, s5225, s5243, x5231, x5249, q5262, hF.to ⟨rfl, rfl, rfl, rfl, rfl, rfl, trivial⟩, selM hM [3, 4, 5, 6] 7 rfl⟩
        have hP := Fx.cF hb5207 hP
        refine d_startT mixed (by kernel_rfl) hM [0, 1, 2, 3] 4 rfl fun hch => ?_
        refine d_val hF hch 0 rfl (by kernel_rfl) rfl rfl rfl (fun w hM => (r_move hF rfl rfl)) fun a hF => ?_
        refine d_val hF hch 1 rfl (by kernel_rfl) rfl rfl rfl (fun w hM => (r_move hF rfl rfl)) fun a hF => ?_
        refine d_val hF hch 2 rfl (by kernel_rfl) rfl rfl rfl (fun w hM => (r_move hF rfl rfl)) fun a hF => ?_
        refine d_val hF hch 3 rfl (by kernel_rfl) rfl rfl rfl (fun w hM => (r_move hF rfl rfl)) fun a hF => ?_
        refine d_val hF hch 4 rfl (by kernel_rfl) rfl rfl rfl (fun w hM => (r_move hF rfl rfl)) fun a hF => ?_
        obtain ⟨x5265, hx5265, hP⟩ := bind_some hP
        have h0x5265 := get_some hx5265
        refine d_val hF hch 5 rfl (by kernel_rfl) rfl rfl rfl (fun w hM => (r_indexZ (sz := 1) (f7 _ (hsub _ (dropM hM 4))) Tryz.underlying23 in5 rfl hF rfl rfl rfl (get_bd hx5265))) fun a hF => ?_
        refine d_val hF hch 6 rfl (by kernel_rfl) rfl rfl rfl (fun w hM => (r_load1 Tryz.isAgg5 hF rfl rfl ((((f7 _ (hsub _ (dropM hM 4))).elemS h0x5265.2)).get 0 rfl))) fun a hF => ?_
        refine d_val hF hch 8 rfl (by kernel_rfl) rfl rfl rfl (fun w hM => (r_move hF rfl rfl)) fun a hF => ?_
        refine d_val hF hch 9 rfl (by kernel_rfl) rfl rfl rfl (fun w hM => (r_move hF rfl rfl)) fun a hF => ?_
        obtain ⟨x5266, hx5266, hP⟩ := bind_some hP
        have h0x5266 := get_some hx5266
        refine d_val hF hch 10 rfl (by kernel_rfl) rfl rfl rfl (fun w hM => (r_indexZ (sz := 1) (f9 _ (hsub _ (dropM hM 4))) Tryz.underlying23 in5 rfl hF rfl rfl rfl (get_bd hx5266))) fun a hF => ?_
        refine d_val hF hch 11 rfl (by kernel_rfl) rfl rfl rfl (fun w hM => (r_load1 Tryz.isAgg5 hF rfl rfl ((((f9 _ (hsub _ (dropM hM 4))).elemS h0x5266.2)).get 0 rfl))) fun a hF => ?_
        refine d_two hch 7 12 (by kernel_rfl) rfl rfl ?_ ?_
        · refine d_ex hF 7 rfl rfl rfl rfl rfl fun w hMs hM => ?_
          refine (w_slice1 (X := UInt8) (y := x5265) Tryz.underlying23 in5 rfl rfl rfl rfl hF rfl rfl rfl fun b_B88_78 w hzB88_78 hAB88_78 => ?_)
          have hM := hM.plus hAB88_78
          replace hM : MemL _ (pt b_B88_78 (encs ([x5265] : List UInt8)) 5 :: rowL 0 s4983 156 hs4984 :: rowL 0 so4987 5 lo4989 :: rowL 0 sn4988 5 ln4990 :: r4986 :: Lr) := hM
          have hMs := selM hM [0, 1, 2, 3, 4] 5 rfl
          refine ⟨_, _, hMs, hM, .inl fun _ h => dropM h 1, fun a hF => ?_⟩
          refine d_one hch 12 (by kernel_rfl) rfl rfl ?_
          refine d_ex hF 12 rfl rfl rfl rfl rfl fun w hMs hM => ?_
          refine (w_slice1 (X := UInt8) (y := x5266) Tryz.underlying23 in5 rfl rfl rfl rfl hF rfl rfl rfl fun b_B88_83 w hzB88_83 hAB88_83 => ?_)
          have hM := hM.plus hAB88_83
          replace hM : MemL _ (pt b_B88_83 (encs ([x5266] : List UInt8)) 5 :: pt b_B88_78 (encs ([x5265] : List UInt8)) 5 :: rowL 0 s4983 156 hs4984 :: rowL 0 so4987 5 lo4989 :: rowL 0 sn4988 5 ln4990 :: r4986 :: Lr) := hM
          have hMs := selM hM [0, 1, 2, 3, 4, 5] 6 rfl
          refine ⟨_, _, hMs, hM, .inl fun _ h => dropM h 1, fun a hF => ?_⟩
          refine d_val hF hch 13 rfl (by kernel_rfl) rfl rfl rfl (fun w hM => (r_build z156 Tryz.underlying156 pl156 hF (parts := [(0, .tmp 72), (1, .tmp 73), (2, .tmp 78), (3, .tmp 83)]) rfl rfl (fill_s rfl rfl (by rw [RPiece.len]; decide) (RPiece.s_table _ _) (fill_s rfl rfl (by rw [RPiece.len]; decide) (RPiece.s_from_ _ _) (fill_s rfl rfl (by rw [RPiece.len]; decide) (RPiece.s_old _ _) (fill_s rfl rfl (by rw [RPiece.len]; decide) (RPiece.s_new _ _) fill_e)))))) fun a hF => ?_
          refine d_one hch 14 (by kernel_rfl) rfl rfl ?_
          refine d_ex hF 14 rfl rfl rfl rfl rfl fun w hMs hM => ?_
          refine (w_slice1 (X := RPiece) (y := (RPiece.mk x1 v4993 (⟨some ⟨b_B88_78, 0, none⟩, 1, 1⟩) (⟨some ⟨b_B88_83, 0, none⟩, 1, 1⟩))) Tryz.underlying58 in156 rfl rfl rfl rfl hF rfl rfl rfl fun b_B88_85 w hzB88_85 hAB88_85 => ?_)
          have hM := hM.plus hAB88_85
          replace hM : MemL _ (pt b_B88_85 (encs ([(RPiece.mk x1 v4993 (⟨some ⟨b_B88_78, 0, none⟩, 1, 1⟩) (⟨some ⟨b_B88_83, 0, none⟩, 1, 1⟩))] : List RPiece)) 156 :: pt b_B88_83 (encs ([x5266] : List UInt8)) 5 :: pt b_B88_78 (encs ([x5265] : List UInt8)) 5 :: rowL 0 s4983 156 hs4984 :: rowL 0 so4987 5 lo4989 :: rowL 0 sn4988 5 ln4990 :: r4986 :: Lr) := hM
          have hMs := selM hM [0, 1, 2, 3, 4, 5, 6] 7 rfl
          refine ⟨_, _, hMs, hM, .inl fun _ h => dropM h 1, fun a hF => ?_⟩
          refine d_one hch 15 (by kernel_rfl) rfl rfl ?_
          refine d_ex hF 15 rfl rfl rfl rfl rfl fun w hMs hM => ?_
          obtain ⟨x5268, hx5268, hP⟩ := bind_some hP
          refine (w_appD (X := RPiece) hx5268 q4991.len rfl Tryz.underlying58 in156 rfl rfl rfl rfl hF rfl rfl rfl (hM.own (X := RPiece) (i := 3) rfl) (hM.ptS (X := RPiece) (i := 0) (n := 1) (c := 1) rfl rfl rfl (Nat.le_refl _)) fun s5267 w hUs5267 => ?_)
          have hM := hM.chg hUs5267 (i := 3) rfl
          replace hM : MemL _ (pt b_B88_85 (encs ([(RPiece.mk x1 v4993 (⟨some ⟨b_B88_78, 0, none⟩, 1, 1⟩) (⟨some ⟨b_B88_83, 0, none⟩, 1, 1⟩))] : List RPiece)) 156 :: pt b_B88_83 (encs ([x5266] : List UInt8)) 5 :: pt b_B88_78 (encs ([x5265] : List UInt8)) 5 :: rowL 0 s5267 156 (hs4984 ++ [(RPiece.mk x1 v4993 (⟨some ⟨b_B88_78, 0, none⟩, 1, 1⟩) (⟨some ⟨b_B88_83, 0, none⟩, 1, 1⟩))]) :: rowL 0 so4987 5 lo4989 :: rowL 0 sn4988 5 ln4990 :: r4986 :: Lr) := hM
          obtain ⟨r5269, hj5270, hj5271, hM⟩ := joinM (selM hM [6, 4, 0, 1, 2, 3, 5] 7 rfl)
          replace hM : MemL _ (r5269 :: pt b_B88_85 (encs ([(RPiece.mk x1 v4993 (⟨some ⟨b_B88_78, 0, none⟩, 1, 1⟩) (⟨some ⟨b_B88_83, 0, none⟩, 1, 1⟩))] : List RPiece)) 156 :: pt b_B88_83 (encs ([x5266] : List UInt8)) 5 :: pt b_B88_78 (encs ([x5265] : List UInt8)) 5 :: rowL 0 s5267 156 (hs4984 ++ [(RPiece.mk x1 v4993 (⟨some ⟨b_B88_78, 0, none⟩, 1, 1⟩) (⟨some ⟨b_B88_83, 0, none⟩, 1, 1⟩))]) :: rowL 0 sn4988 5 ln4990 :: Lr) := hM
          replace hM : MemL _ (r5269 :: pt b_B88_85 (encs ([(RPiece.mk x1 v4993 (⟨some ⟨b_B88_78, 0, none⟩, 1, 1⟩) (⟨some ⟨b_B88_83, 0, none⟩, 1, 1⟩))] : List RPiece)) 156 :: pt b_B88_83 (encs ([x5266] : List UInt8)) 5 :: pt b_B88_78 (encs ([x5265] : List UInt8)) 5 :: rowL 0 s5267 156 (hs4984 ++ [(RPiece.mk x1 v4993 (⟨some ⟨b_B88_78, 0, none⟩, 1, 1⟩) (⟨some ⟨b_B88_83, 0, none⟩, 1, 1⟩))]) :: rowL 0 sn4988 5 ln4990 :: Lr) := hM
          obtain ⟨r5272, hj5273, hj5274, hM⟩ := joinM (selM hM [0, 5, 1, 2, 3, 4] 6 rfl)
          replace hM : MemL _ (r5272 :: pt b_B88_85 (encs ([(RPiece.mk x1 v4993 (⟨some ⟨b_B88_78, 0, none⟩, 1, 1⟩) (⟨some ⟨b_B88_83, 0, none⟩, 1, 1⟩))] : List RPiece)) 156 :: pt b_B88_83 (encs ([x5266] : List UInt8)) 5 :: pt b_B88_78 (encs ([x5265] : List UInt8)) 5 :: rowL 0 s5267 156 (hs4984 ++ [(RPiece.mk x1 v4993 (⟨some ⟨b_B88_78, 0, none⟩, 1, 1⟩) (⟨some ⟨b_B88_83, 0, none⟩, 1, 1⟩))]) :: Lr) := hM
          have q5275 : Each (QPieceIn r5272.holds') hs4984 v4982 := LastP.each q4991 (fun w h => hj5270 w (hj5273 w h)) (fun w h => row_in (X := UInt8) (e := 5) (hj5271 w (hj5273 w h))) (fun w h => row_in (X := UInt8) (e := 5) (hj5274 w h))
          have hM := hM.ptRow (lo := 0) (i := 3) (n := 1) (c := 1) rfl rfl (Nat.zero_le _) rfl rfl (by decide)
          have hM := hM.ptRow (lo := 0) (i := 2) (n := 1) (c := 1) rfl rfl (Nat.zero_le _) rfl rfl (by decide)
          have q5276 : LastP true r5272.holds' (hs4984 ++ [(RPiece.mk x1 v4993 (⟨some ⟨b_B88_78, 0, none⟩, 1, 1⟩) (⟨some ⟨b_B88_83, 0, none⟩, 1, 1⟩))]) x5268 (⟨some ⟨b_B88_78, 0, none⟩, 1, 1⟩) (⟨some ⟨b_B88_83, 0, none⟩, 1, 1⟩) [x5265] [x5266] := by rw [(app_some hx5268).2]; exact LastP.push q5275
          replace hM : MemL _ (r5272 :: pt b_B88_85 (encs ([(RPiece.mk x1 v4993 (⟨some ⟨b_B88_78, 0, none⟩, 1, 1⟩) (⟨some ⟨b_B88_83, 0, none⟩, 1, 1⟩))] : List RPiece)) 156 :: rowL 0 (⟨some ⟨b_B88_83, 0, none⟩, 1, 1⟩) 5 [x5266] :: rowL 0 (⟨some ⟨b_B88_78, 0, none⟩, 1, 1⟩) 5 [x5265] :: rowL 0 s5267 156 (hs4984 ++ [(RPiece.mk x1 v4993 (⟨some ⟨b_B88_78, 0, none⟩, 1, 1⟩) (⟨some ⟨b_B88_83, 0, none⟩, 1, 1⟩))]) :: Lr) := hM
          have hMs := hM
          refine ⟨_, _, hMs, hM, .inr (by kernel_rfl), fun a hF => ?_⟩
          refine d_one hch 16 (by kernel_rfl) rfl rfl ?_
          refine d_ex hF 16 rfl rfl rfl rfl rfl fun w hMs hM => Yd.val (r_assign hF rfl rfl) ?_
          refine ⟨_, _, hMs, hM, .inl fun _ h => h, fun a hF => ?_⟩
          refine d_end hch (by kernel_rfl) fun w hM => ?_
          refine n_block (n_then ?_)
          have hP := Option.some.inj hP
          subst hP
          exact ⟨(x5268, true), rfl, s5267, (hs4984 ++ [(RPiece.mk x1 v4993 (⟨some ⟨b_B88_78, 0, none⟩, 1, 1⟩) (⟨some ⟨b_B88_83, 0, none⟩, 1, 1⟩))]), r5272, (⟨some ⟨b_B88_78, 0, none⟩, 1, 1⟩), (⟨some ⟨b_B88_83, 0, none⟩, 1, 1⟩), [x5265], [x5266], q5276, hF.to ⟨rfl, rfl, rfl, rfl, rfl, rfl, trivial⟩, selM hM [4, 3, 2, 0] 5 rfl⟩
        refine d_ex hF 12 rfl rfl rfl rfl rfl fun w hMs hM => ?_
        refine (w_slice1 (X := UInt8) (y := x5266) Tryz.underlying23 in5 rfl rfl rfl rfl hF rfl rfl rfl fun b_B88_83 w hzB88_83 hAB88_83 => ?_)
        have hM := hM.plus hAB88_83
        replace hM : MemL _ (pt b_B88_83 (encs ([x5266] : List UInt8)) 5 :: rowL 0 s4983 156 hs4984 :: rowL 0 so4987 5 lo4989 :: rowL 0 sn4988 5 ln4990 :: r4986 :: Lr) := hM
        have hMs := selM hM [0, 1, 2, 3, 4] 5 rfl
        refine ⟨_, _, hMs, hM, .inl fun _ h => dropM h 1, fun a hF => ?_⟩
        refine d_one hch 7 (by kernel_rfl) rfl rfl ?_
        refine d_ex hF 7 rfl rfl rfl rfl rfl fun w hMs hM => ?_
        refine (w_slice1 (X := UInt8) (y := x5265) Tryz.underlying23 in5 rfl rfl rfl rfl hF rfl rfl rfl fun b_B88_78 w hzB88_78 hAB88_78 => ?_)
        have hM := hM.plus hAB88_78
        replace hM : MemL _ (pt b_B88_78 (encs ([x5265] : List UInt8)) 5 :: pt b_B88_83 (encs ([x5266] : List UInt8)) 5 :: rowL 0 s4983 156 hs4984 :: rowL 0 so4987 5 lo4989 :: rowL 0 sn4988 5 ln4990 :: r4986 :: Lr) := hM
        have hMs := selM hM [0, 1, 2, 3, 4, 5] 6 rfl
        refine ⟨_, _, hMs, hM, .inl fun _ h => dropM h 1, fun a hF => ?_⟩
        refine d_val hF hch 13 rfl (by kernel_rfl) rfl rfl rfl (fun w hM => (r_build z156 Tryz.underlying156 pl156 hF (parts := [(0, .tmp 72), (1, .tmp 73), (2, .tmp 78), (3, .tmp 83)]) rfl rfl (fill_s rfl rfl (by rw [RPiece.len]; decide) (RPiece.s_table _ _) (fill_s rfl rfl (by rw [RPiece.len]; decide) (RPiece.s_from_ _ _) (fill_s rfl rfl (by rw [RPiece.len]; decide) (RPiece.s_old _ _) (fill_s rfl rfl (by rw [RPiece.len]; decide) (RPiece.s_new _ _) fill_e)))))) fun a hF => ?_
        refine d_one hch 14 (by kernel_rfl) rfl rfl ?_
        refine d_ex hF 14 rfl rfl rfl rfl rfl fun w hMs hM => ?_
        refine (w_slice1 (X := RPiece) (y := (RPiece.mk x1 v4993 (⟨some ⟨b_B88_78, 0, none⟩, 1, 1⟩) (⟨some ⟨b_B88_83, 0, none⟩, 1, 1⟩))) Tryz.underlying58 in156 rfl rfl rfl rfl hF rfl rfl rfl fun b_B88_85 w hzB88_85 hAB88_85 => ?_)
        have hM := hM.plus hAB88_85
        replace hM : MemL _ (pt b_B88_85 (encs ([(RPiece.mk x1 v4993 (⟨some ⟨b_B88_78, 0, none⟩, 1, 1⟩) (⟨some ⟨b_B88_83, 0, none⟩, 1, 1⟩))] : List RPiece)) 156 :: pt b_B88_78 (encs ([x5265] : List UInt8)) 5 :: pt b_B88_83 (encs ([x5266] : List UInt8)) 5 :: rowL 0 s4983 156 hs4984 :: rowL 0 so4987 5 lo4989 :: rowL 0 sn4988 5 ln4990 :: r4986 :: Lr) := hM
        have hMs := selM hM [0, 1, 2, 3, 4, 5, 6] 7 rfl
        refine ⟨_, _, hMs, hM, .inl fun _ h => dropM h 1, fun a hF => ?_⟩
        refine d_one hch 15 (by kernel_rfl) rfl rfl ?_
        refine d_ex hF 15 rfl rfl rfl rfl rfl fun w hMs hM => ?_
        obtain ⟨x5268, hx5268, hP⟩ := bind_some hP
        refine (w_appD (X := RPiece) hx5268 q4991.len rfl Tryz.underlying58 in156 rfl rfl rfl rfl hF rfl rfl rfl (hM.own (X := RPiece) (i := 3) rfl) (hM.ptS (X := RPiece) (i := 0) (n := 1) (c := 1) rfl rfl rfl (Nat.le_refl _)) fun s5267 w hUs5267 => ?_)
        have hM := hM.chg hUs5267 (i := 3) rfl
        replace hM : MemL _ (pt b_B88_85 (encs ([(RPiece.mk x1 v4993 (⟨some ⟨b_B88_78, 0, none⟩, 1, 1⟩) (⟨some ⟨b_B88_83, 0, none⟩, 1, 1⟩))] : List RPiece)) 156 :: pt b_B88_78 (encs ([x5265] : List UInt8)) 5 :: pt b_B88_83 (encs ([x5266] : List UInt8)) 5 :: rowL 0 s5267 156 (hs4984 ++ [(RPiece.mk x1 v4993 (⟨some ⟨b_B88_78, 0, none⟩, 1, 1⟩) (⟨some ⟨b_B88_83, 0, none⟩, 1, 1⟩))]) :: rowL 0 so4987 5 lo4989 :: rowL 0 sn4988 5 ln4990 :: r4986 :: Lr) := hM
        obtain ⟨r5269, hj5270, hj5271, hM⟩ := joinM (selM hM [6, 4, 0, 1, 2, 3, 5] 7 rfl)
        replace hM : MemL _ (r5269 :: pt b_B88_85 (encs ([(RPiece.mk x1 v4993 (⟨some ⟨b_B88_78, 0, none⟩, 1, 1⟩) (⟨some ⟨b_B88_83, 0, none⟩, 1, 1⟩))] : List RPiece)) 156 :: pt b_B88_78 (encs ([x5265] : List UInt8)) 5 :: pt b_B88_83 (encs ([x5266] : List UInt8)) 5 :: rowL 0 s5267 156 (hs4984 ++ [(RPiece.mk x1 v4993 (⟨some ⟨b_B88_78, 0, none⟩, 1, 1⟩) (⟨some ⟨b_B88_83, 0, none⟩, 1, 1⟩))]) :: rowL 0 sn4988 5 ln4990 :: Lr) := hM
        replace hM : MemL _ (r5269 :: pt b_B88_85 (encs ([(RPiece.mk x1 v4993 (⟨some ⟨b_B88_78, 0, none⟩, 1, 1⟩) (⟨some ⟨b_B88_83, 0, none⟩, 1, 1⟩))] : List RPiece)) 156 :: pt b_B88_78 (encs ([x5265] : List UInt8)) 5 :: pt b_B88_83 (encs ([x5266] : List UInt8)) 5 :: rowL 0 s5267 156 (hs4984 ++ [(RPiece.mk x1 v4993 (⟨some ⟨b_B88_78, 0, none⟩, 1, 1⟩) (⟨some ⟨b_B88_83, 0, none⟩, 1, 1⟩))]) :: rowL 0 sn4988 5 ln4990 :: Lr) := hM
        obtain ⟨r5272, hj5273, hj5274, hM⟩ := joinM (selM hM [0, 5, 1, 2, 3, 4] 6 rfl)
        replace hM : MemL _ (r5272 :: pt b_B88_85 (encs ([(RPiece.mk x1 v4993 (⟨some ⟨b_B88_78, 0, none⟩, 1, 1⟩) (⟨some ⟨b_B88_83, 0, none⟩, 1, 1⟩))] : List RPiece)) 156 :: pt b_B88_78 (encs ([x5265] : List UInt8)) 5 :: pt b_B88_83 (encs ([x5266] : List UInt8)) 5 :: rowL 0 s5267 156 (hs4984 ++ [(RPiece.mk x1 v4993 (⟨some ⟨b_B88_78, 0, none⟩, 1, 1⟩) (⟨some ⟨b_B88_83, 0, none⟩, 1, 1⟩))]) :: Lr) := hM
        have q5275 : Each (QPieceIn r5272.holds') hs4984 v4982 := LastP.each q4991 (fun w h => hj5270 w (hj5273 w h)) (fun w h => row_in (X := UInt8) (e := 5) (hj5271 w (hj5273 w h))) (fun w h => row_in (X := UInt8) (e := 5) (hj5274 w h))
        have hM := hM.ptRow (lo := 0) (i := 2) (n := 1) (c := 1) rfl rfl (Nat.zero_le _) rfl rfl (by decide)
        have hM := hM.ptRow (lo := 0) (i := 3) (n := 1) (c := 1) rfl rfl (Nat.zero_le _) rfl rfl (by decide)
        have q5276 : LastP true r5272.holds' (hs4984 ++ [(RPiece.mk x1 v4993 (⟨some ⟨b_B88_78, 0, none⟩, 1, 1⟩) (⟨some ⟨b_B88_83, 0, none⟩, 1, 1⟩))]) x5268 (⟨some ⟨b_B88_78, 0, none⟩, 1, 1⟩) (⟨some ⟨b_B88_83, 0, none⟩, 1, 1⟩) [x5265] [x5266] := by rw [(app_some hx5268).2]; exact LastP.push q5275
        replace hM : MemL _ (r5272 :: pt b_B88_85 (encs ([(RPiece.mk x1 v4993 (⟨some ⟨b_B88_78, 0, none⟩, 1, 1⟩) (⟨some ⟨b_B88_83, 0, none⟩, 1, 1⟩))] : List RPiece)) 156 :: rowL 0 (⟨some ⟨b_B88_78, 0, none⟩, 1, 1⟩) 5 [x5265] :: rowL 0 (⟨some ⟨b_B88_83, 0, none⟩, 1, 1⟩) 5 [x5266] :: rowL 0 s5267 156 (hs4984 ++ [(RPiece.mk x1 v4993 (⟨some ⟨b_B88_78, 0, none⟩, 1, 1⟩) (⟨some ⟨b_B88_83, 0, none⟩, 1, 1⟩))]) :: Lr) := hM
        have hMs := hM
        refine ⟨_, _, hMs, hM, .inr (by kernel_rfl), fun a hF => ?_⟩
        refine d_one hch 16 (by kernel_rfl) rfl rfl ?_
        refine d_ex hF 16 rfl rfl rfl rfl rfl fun w hMs hM => Yd.val (r_assign hF rfl rfl) ?_
        refine ⟨_, _, hMs, hM, .inl fun _ h => h, fun a hF => ?_⟩
        refine d_end hch (by kernel_rfl) fun w hM => ?_
        refine n_block (n_then ?_)
        have hP := Option.some.inj hP
        subst hP
        exact ⟨(x5268, true), rfl, s5267, (hs4984 ++ [(RPiece.mk x1 v4993 (⟨some ⟨b_B88_78, 0, none⟩, 1, 1⟩) (⟨some ⟨b_B88_83, 0, none⟩, 1, 1⟩))]), r5272, (⟨some ⟨b_B88_78, 0, none⟩, 1, 1⟩), (⟨some ⟨b_B88_83, 0, none⟩, 1, 1⟩), [x5265], [x5266], q5276, hF.to ⟨rfl, rfl, rfl, rfl, rfl, rfl, trivial⟩, selM hM [4, 2, 3, 0] 5 rfl⟩
      rintro ⟨v5176, t5186⟩ a w hP ⟨s5177, hs5178, r5180, so5181, sn5182, lo5183, ln5184, q5185, hF, hM⟩
      replace hP : Sh.ref23_unlike_j3 v4993 v5176 t5186 = _ := hP
      unfold Sh.ref23_unlike_j3 at hP
      refine n_then ?_
      refine c_region ?_
      refine s_val hF (r_move hF rfl rfl) rfl rfl rfl fun a hF => ?_
      refine s_val hF (r_add hF rfl rfl rfl) rfl rfl rfl fun a hF => ?_
      refine s_val hF (r_assign hF rfl rfl) rfl rfl rfl fun a hF => ?_
      refine c_nil (n_then ?_)
      have hP := Option.some.inj hP
      subst hP
      exact ⟨(v5176, t5186, (IntKind.i64.wrap (v4993 + 1))), rfl, s5177, hs5178, r5180, so5181, sn5182, lo5183, ln5184, q5185, hF.to ⟨rfl, rfl, rfl, rfl, rfl, rfl, trivial⟩, hM⟩
    have hP := Fx.cF hb4995 hP
    refine c_exit (x_then (x_then (x_hit ?_)))
    refine n_then ?_
    have hP := Option.some.inj hP
    subst hP
    have hP := hK_l2 _ rfl
    subst hP
    exact ⟨(v4982, t4992), rfl, s4983, hs4984, r4986, so4987, sn4988, lo4989, ln4990, q4991, hF.to ⟨rfl, rfl, trivial⟩, hM⟩
  rintro ⟨v4393, t4403⟩ a w hP ⟨s4394, hs4395, r4397, so4398, sn4399, lo4400, ln4401, q4402, hF, hM⟩
  replace hP : Sh.ref23_unlike_j1 v4393 t4403 = _ := hP
  unfold Sh.ref23_unlike_j1 at hP
  refine n_then ?_
  refine c_seq ?_
  refine c_region ?_
  refine s_val hF (r_move hF rfl rfl) rfl rfl rfl fun a hF => ?_
  refine s_val hF (r_assign hF rfl rfl) rfl rfl rfl fun a hF => ?_
  refine c_nil (n_then ?_)
  refine c_ret ?_
  replace hM : MemL _ (rowL 0 s4394 156 hs4395 :: rowL 0 so4398 5 lo4400 :: rowL 0 sn4399 5 ln4401 :: r4397 :: Lr) := hM
  obtain ⟨r5277, hj5278, hj5279, hM⟩ := joinM (selM hM [3, 1, 0, 2] 4 rfl)
  replace hM : MemL _ (r5277 :: rowL 0 s4394 156 hs4395 :: rowL 0 sn4399 5 ln4401 :: Lr) := hM
  replace hM : MemL _ (r5277 :: rowL 0 s4394 156 hs4395 :: rowL 0 sn4399 5 ln4401 :: Lr) := hM
  obtain ⟨r5280, hj5281, hj5282, hM⟩ := joinM (selM hM [0, 2, 1] 3 rfl)
  replace hM : MemL _ (r5280 :: rowL 0 s4394 156 hs4395 :: Lr) := hM
  have q5283 : Each (QPieceIn r5280.holds') hs4395 v4393 := LastP.each q4402 (fun w h => hj5278 w (hj5281 w h)) (fun w h => row_in (X := UInt8) (e := 5) (hj5279 w (hj5281 w h))) (fun w h => row_in (X := UInt8) (e := 5) (hj5282 w h))
  have hP := Option.some.inj hP
  subst hP
  refine e_ret1 Tryz.results88 hF rfl ?_
  exact ⟨s4394, hs4395, r5280, rfl, q5283, selM hM [1, 0] 2 rfl⟩
end Go.Proofs
end
section
namespace Go.Ev
set_option linter.unusedVariables false
set_option linter.unusedSimpArgs false
open Go.Fw Go.Proofs
set_option maxRecDepth 1000000
theorem known_ev : okT (acall (tabOf Tryz.prog) 1000 40 [] (.f 22 [] []) [] { h := .e, nx := 0 }) = true := by kernel_rfl
end Go.Ev
end
section
namespace Go.Proofs
open Go.Fw Go.Fx
theorem law23_known_calls {out : Bool} {w0 : World} {Lr : List Res} (hP : Sh.law23_known = some out) (hM : MemL w0 Lr) : Calls Tryz.prog 22 #[] w0 (Ret fun v w' => v = .bool out ∧ MemL w' Lr) := by
  cases hP
  refine Calls.mono (Go.Ev.closed_true (fuel := 1000) (k := 40) (by kernel_rfl) Go.Ev.known_ev w0) fun e w' he => ?_
  cases e <;> first
    | exact ⟨he.1, hM.keep he.2⟩
    | exact he
end Go.Proofs
end
