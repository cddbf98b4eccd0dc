/- Bodies: all parts. -/
import Derived.Test.YtmjmfollimaleaaCode0
import Derived.Test.YtmjmfollimaleaaCode1
