/- Closed runs of chapter 48: what they are given, and what is read. -/
import Derived.Test.YtdoegkegjaadeaaGreatDoorQSj
namespace Go.VZ
open Go Go.V Go.Proofs Go.RowKit
def st (s : List Nat) : AV := .str ⟨(s.map (fun n => UInt8.ofNat n)).toArray⟩
-- att(k:any) ; att(enc(s:any, k:any))
def tS : AV := .agg [.int .i64 2, st [115], .int .i64 0, .isl [] .unk]
def tA : AV := .agg [.int .i64 2, st [97], .int .i64 0, .isl [] .unk]
def tX0 : AV := .agg [.int .i64 1, st [120], .int .i64 0, .isl [] .unk]
def tY0 : AV := .agg [.int .i64 1, st [121], .int .i64 0, .isl [] .unk]
def tE : AV := .agg [.int .i64 3, st [101,110,99], .int .i64 0, .isl [tS, tK] .unk]
def fAtt (t : AV) : AV := .agg [.int .i64 1, .int .i64 0, .isl [t] .unk]
def cl (body : List AV) (k g : Int) (ts : List AV) : AV := .agg [.isl body .unk, .int .i64 k, .int .i64 g, .isl ts .unk]
def lK : AV := .isl [cl [] 1 0 [tK], cl [] 1 0 [tE]] .unk
def lX : AV := .isl [cl [.agg [.int .i64 2, .int .i64 1, .isl [tX0] .unk], fAtt tY0] 3 1 [tX0]] .unk
def lY : AV := .isl [cl [.agg [.int .i64 2, .int .i64 1, .isl [tY0] .unk], fAtt tY0] 3 1 [tX0]] .unk
def fC : AV := .agg [.int .i64 3, .int .i64 1, .isl [tA] .unk]

theorem read_K : runIs CK 4000 25 [.isl [(st [97, 116, 116, 40, 107, 58, 97, 110, 121, 41]), (st [97, 116, 116, 40, 101, 110, 99, 40, 115, 58, 97, 110, 121, 44, 32, 107, 58, 97, 110, 121, 41, 41])] .unk] lK = true := by kernel_rfl
theorem read_X : runIs CK 4000 25 [.isl [(st [98, 101, 103, 105, 110, 32, 49, 40, 63, 120, 41, 32, 38, 32, 97, 116, 116, 40, 63, 121, 41, 32, 45, 62, 32, 99, 108, 97, 105, 109, 32, 49, 40, 63, 120, 41])] .unk] lX = true := by kernel_rfl
theorem read_Y : runIs CK 4000 25 [.isl [(st [98, 101, 103, 105, 110, 32, 49, 40, 63, 121, 41, 32, 38, 32, 97, 116, 116, 40, 63, 121, 41, 32, 45, 62, 32, 99, 108, 97, 105, 109, 32, 49, 40, 63, 120, 41])] .unk] lY = true := by kernel_rfl
theorem atom_k : runIs CK 4000 26 [st [107], .int .i64 0] tK = true := by kernel_rfl
theorem atom_s : runIs CK 4000 26 [st [115], .int .i64 0] tS = true := by kernel_rfl
theorem atom_a : runIs CK 4000 26 [st [97], .int .i64 0] tA = true := by kernel_rfl
end Go.VZ
