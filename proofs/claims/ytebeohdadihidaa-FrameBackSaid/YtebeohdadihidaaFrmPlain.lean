/- Frames in plain words. No program in sight. -/
import Derived.Test.YtebeohdadihidaaBase
import Derived.Test.YtebeohdadihidaaCrcPlain
namespace Go.Proofs.Ytebeohdadihidaa.Frm

/-- a number's four bytes, the highest first -/
def four (n : BitVec 32) : List UInt8 := [UInt8.ofNat (n.toNat / 16777216), UInt8.ofNat (n.toNat / 65536), UInt8.ofNat (n.toNat / 256), UInt8.ofNat n.toNat]

def lens (data : List UInt8) : List UInt8 := [UInt8.ofNat (data.length / 256), UInt8.ofNat data.length]
/-- what is packed, ahead of the sum -/
def body (kind place : Int) (data : List UInt8) : List UInt8 :=
  [UInt8.ofNat kind.toNat] ++ four (BitVec.ofInt 32 place) ++ lens data ++ data
def pack (kind place : Int) (data : List UInt8) : List UInt8 := body kind place data ++ four (Crc.more 0#32 (body kind place data))
def good (kind place : Int) (data : List UInt8) : Bool := decide (1 ≤ kind) && decide (kind ≤ 4) && decide (0 ≤ place) && decide (place ≤ 2147483647) && decide (data.length ≤ 1000)

/-- what bytes would hold, were they a frame -/
def mid (b : List UInt8) : List UInt8 := (b.drop 7).take (b.length - 11)
/-- the bytes are a frame of this place -/
def fits (place : Int) (b : List UInt8) : Bool := decide (11 ≤ b.length) && good ((b.getD 0 0).toNat : Int) place (mid b) && decide (pack ((b.getD 0 0).toNat : Int) place (mid b) = b)

end Go.Proofs.Ytebeohdadihidaa.Frm
